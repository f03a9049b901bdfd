/-
  The walk of the law SessionBounds: one is taken off what is open.
-/
import Derived.Test.YtmeeldcgmfplnaaW42
set_option linter.unusedVariables false
set_option linter.unusedSimpArgs false
namespace Go.Proofs.Ytmeeldcgmfplnaa
open Go.RowKit Go.BigFrame
attribute [local go_sem] setRow_setCell_same setRow_setCell_other setRow_cell_same setRow_cell_other setRow_frozen setRow_shape
attribute [local go_sem ↓] Go.wp_at_zero Go.wp_at_succ

/-- A region of the code, by its number. -/
def findReg (n : Nat) : Code → Option Code
  | .seq a b => match findReg n a with
    | some c => some c
    | none => findReg n b
  | .cond _ a b => match findReg n a with
    | some c => some c
    | none => findReg n b
  | .block _ c => findReg n c
  | .loop c => findReg n c
  | .region m ops d => if m = n then some (.region m ops d) else none
  | _ => none
noncomputable def reg7 (n : Nat) : Code := (findReg n ((Try.f7.body).getD .skip)).getD .skip
theorem erase_parts' {l : List Int} {i : Nat} : l.take i ++ l.drop (i + 1) = l.eraseIdx i := (List.eraseIdx_eq_take_drop_succ l i).symm

set_option maxRecDepth 100000 in
set_option maxHeartbeats 8000000 in
theorem bounds_off (p0 p1 p2 p3 p5 p6 p7 p8 p9 p10 p11 p12 p13 p14 p16 p17 p18 p19 p20 p21 p22 p23 p24 p25 p26 p27 p28 p29 p30 p31 p32 p33 p34 p35 p36 p37 p38 p39 p40 p41 p42 p43 p44 p45 p46 p47 p48 p49 p50 p51 p52 p53 p54 p55 p56 p57 p58 p59 p60 p61 p62 p63 p64 p65 p66 p67 p68 p69 p70 p71 p72 p73 p74 p75 p76 p77 p78 p79 p80 p81 p82 p83 p84 p85 p86 p87 p88 p89 p90 p91 p92 p93 p94 p95 p96 p97 p98 p99 p100 p101 p102 p103 p104 p105 p106 p107 p108 p109 p110 p111 p112 p113 p114 p115 p116 p117 p118 p119 p120 p121 p122 p123 p124 p125 p126 p127 p128 p129 p130 p131 p132 p133 p134 p135 p136 p137 p138 p139 p140 p141 p142 p143 p144 p145 p146 p147 p148 p149 p150 p151 p152 p153 p154 p155 p156 p157 p158 p159 p160 p161 p162 p163 p164 p165 p166 p167 p168 p169 p170 p171 p172 p173 p174 p175 p176 p177 p178 p179 p180 p181 p182 p183 p184 p185 p186 p187 p188 p189 p190 p191 p192 p193 p194 p195 p196 p197 p198 p199 p200 p201 p202 p203 p204 p205 p206 p207 p208 p209 p210 p211 p212 p213 p214 p215 p216 p217 p218 p219 p220 p221 p222 p223 p224 p225 p226 p227 p228 p229 p230 p231 p232 p233 p234 p235 p236 p237 p238 p239 p240 p241 p242 p243 p244 p245 p246 p247 p248 p249 p250 : Value) (o : List Int) (j : Nat) (ad2 : Addr) (co' : Nat) (ok : Nat → Prop) (w wr : World) (hS : Sl 1 kU8 ok wr (some ad2) co' o) (hj : j < o.length) (hol : o.length ≤ 1000) (K : Act → World → Prop)
    (hQ : ∀ (q4 q129 q130 q131 q132 q133 q134 q135 q136 q137 : Value) (wx : World), (Own 5 kU8 (fun b => wr.heap.size ≤ b) wr.heap.size wx q4 (o.eraseIdx j) ∧ Below wr.heap.size wr wx) → K { tmps := #[p0, p1, p2, p3, q4, p5, p6, p7, p8, p9, p10, p11, p12, p13, p14, .int .i64 j, p16, p17, p18, p19, p20, p21, p22, p23, p24, p25, p26, p27, p28, p29, p30, p31, p32, p33, p34, p35, p36, p37, p38, p39, p40, p41, p42, p43, p44, p45, p46, p47, p48, p49, p50, p51, p52, p53, p54, p55, p56, p57, p58, p59, p60, p61, p62, p63, p64, p65, p66, p67, p68, p69, p70, p71, p72, p73, p74, p75, p76, p77, p78, p79, p80, p81, p82, p83, p84, p85, p86, p87, p88, p89, p90, p91, p92, p93, p94, p95, p96, p97, p98, p99, p100, p101, p102, p103, p104, p105, p106, p107, p108, p109, p110, p111, p112, p113, p114, p115, p116, p117, p118, p119, p120, p121, p122, p123, p124, p125, p126, p127, p128, q129, q130, q131, q132, q133, q134, q135, q136, q137, p138, p139, p140, p141, p142, p143, p144, p145, p146, p147, p148, p149, p150, p151, p152, p153, p154, p155, p156, p157, p158, p159, p160, p161, p162, p163, p164, p165, p166, p167, p168, p169, p170, p171, p172, p173, p174, p175, p176, p177, p178, p179, p180, p181, p182, p183, p184, p185, p186, p187, p188, p189, p190, p191, p192, p193, p194, p195, p196, p197, p198, p199, p200, p201, p202, p203, p204, p205, p206, p207, p208, p209, p210, p211, p212, p213, p214, p215, p216, p217, p218, p219, p220, p221, p222, p223, p224, p225, p226, p227, p228, p229, p230, p231, p232, p233, p234, p235, p236, p237, p238, p239, p240, p241, p242, p243, p244, p245, p246, p247, p248, p249, p250], defers := [] } wx) :
    Code.wp Try.prog (reg7 29) (Exit.then K (fun _ _ _ => False)) { tmps := #[p0, p1, p2, p3, .slice (some ad2) o.length co', p5, p6, p7, p8, p9, p10, p11, p12, p13, p14, .int .i64 j, p16, p17, p18, p19, p20, p21, p22, p23, p24, p25, p26, p27, p28, p29, p30, p31, p32, p33, p34, p35, p36, p37, p38, p39, p40, p41, p42, p43, p44, p45, p46, p47, p48, p49, p50, p51, p52, p53, p54, p55, p56, p57, p58, p59, p60, p61, p62, p63, p64, p65, p66, p67, p68, p69, p70, p71, p72, p73, p74, p75, p76, p77, p78, p79, p80, p81, p82, p83, p84, p85, p86, p87, p88, p89, p90, p91, p92, p93, p94, p95, p96, p97, p98, p99, p100, p101, p102, p103, p104, p105, p106, p107, p108, p109, p110, p111, p112, p113, p114, p115, p116, p117, p118, p119, p120, p121, p122, p123, p124, p125, p126, p127, p128, p129, p130, p131, p132, p133, p134, p135, p136, p137, p138, p139, p140, p141, p142, p143, p144, p145, p146, p147, p148, p149, p150, p151, p152, p153, p154, p155, p156, p157, p158, p159, p160, p161, p162, p163, p164, p165, p166, p167, p168, p169, p170, p171, p172, p173, p174, p175, p176, p177, p178, p179, p180, p181, p182, p183, p184, p185, p186, p187, p188, p189, p190, p191, p192, p193, p194, p195, p196, p197, p198, p199, p200, p201, p202, p203, p204, p205, p206, p207, p208, p209, p210, p211, p212, p213, p214, p215, p216, p217, p218, p219, p220, p221, p222, p223, p224, p225, p226, p227, p228, p229, p230, p231, p232, p233, p234, p235, p236, p237, p238, p239, p240, p241, p242, p243, p244, p245, p246, p247, p248, p249, p250], defers := [] } wr := by
  conv => arg 2; whnf
  let BP := bodyPost Try.prog Try.f7 (PostT w)
  have HQ := Aside.mk hQ
  clear hQ
  have hcap := hS.1
  have hi0 : (0 : Int) ≤ (j : Int) := by omega
  have hil : (j : Int) < (o.length : Int) := by omega
  have hic : (j : Int) ≤ (co' : Int) := by omega
  have hw1 : wrap64 ((j : Int) + 1) = (j : Int) + 1 := by unfold wrap64; omega
  have hw2 : IntKind.i64.wrap ((j : Int) + 1) = (j : Int) + 1 := by unfold IntKind.wrap; simp [IntKind.bits, IntKind.signed]; omega
  have hii : (j : Int) ≤ (j : Int) + 1 := by omega
  have hil2 : (j : Int) + 1 ≤ (o.length : Int) := by omega
  have hi10 : (0 : Int) ≤ (j : Int) + 1 := by omega
  have HTK := Aside.mk (Kn.C_take hS.2.2.2 j (by omega))
  have HDr := Aside.mk (Kn.C_drop (c := co') hS.2.2.2 (j + 1) (by omega) hcap)
  have HB := Aside.mk hol
  clear hS hol
  by_cases hc2 : co' = j + 1
  · subst hc2
    have HDr2 := Aside.mk (show kU8.C ok wr (some ad2) 0 (o.drop (j + 1)) by rw [List.drop_of_length_le (by omega)]; exact Kn.C_nil _ _ _ _)
    go_region_law (first | (refine step_append_Own (P := Try.prog) _ (by rfl) kU8 (.const (.slice none 0 0)) (.tmp 131) 28 5 (by rfl) (.int .u8 0) 1 Try.underlying28 info5b rfl (by decide) (ok := fun b => wr.heap.size ≤ b) (okp := fun _ => False) (lo := wr.heap.size) (v := .slice none 0 0) (xs := []) (ys := o.take j) (by go_simp) (Own.nil _ _ _ _ _) (A := some ad2) (m := j) (c := j + 1) (by go_simp) (Kn.Cf_scalar (fun _ => False) (Kn.C_below HTK.out (Below.refl _ _).drew)) (fun b hb _ => hb.elim) (fun b hb => hb) (Nat.le_refl _) (by have := HB.out; simp; omega) ?_; intro v1 w1 hO1 hg1 hat1; have hb1 := below_of_grown_none hg1; have hO1' := Aside.mk hO1; have HB1 := Aside.mk (show Below wr.heap.size wr w1 from Below.trans (Below.refl _ _).drew hb1); clear hO1 hg1 hat1 hb1) | (refine step_append_Own (P := Try.prog) _ (by rfl) kU8 (.tmp 132) (.tmp 136) 28 5 (by rfl) (.int .u8 0) 1 Try.underlying28 info5b rfl (by decide) (ok := fun b => wr.heap.size ≤ b) (okp := fun _ => False) (lo := wr.heap.size) (v := v1) (xs := o.take j) (ys := o.drop (j + 1)) (by go_simp) hO1'.out (A := some ad2) (m := 0) (c := 0) (by go_simp) (Kn.Cf_scalar (fun _ => False) (Kn.C_below HDr2.out HB1.out)) (fun b hb _ => hb.elim) (fun b hb => (by have hb' := hb; have := HB1.out.size; omega)) HB1.out.size (by have := HB.out; simp; omega) ?_; intro v2 w2 hO2 hg2 hat2; have hO2' := Aside.mk hO2; have HB2 := Aside.mk (HB1.out.grown hg2 HB1.out.size (fun b hb => (hO1'.out.ge b hb).1)); clear hO2 hg2 hat2))
    all_goals
      go_wp2_with fail
      have hO3 := hO2'.out
      rw [erase_parts'] at hO3
      exact HQ.out _ _ _ _ _ _ _ _ _ _ _ ⟨hO3, HB2.out⟩
  · have HDr2 := Aside.mk (show kU8.C ok wr (some (ad2.add (j + 1))) (o.length - (j + 1)) (o.drop (j + 1)) by have := HDr.out; rw [if_neg hc2] at this; simpa [kU8, Kn.int, Kn.scalar] using this)
    go_region_law (first | (refine step_append_Own (P := Try.prog) _ (by rfl) kU8 (.const (.slice none 0 0)) (.tmp 131) 28 5 (by rfl) (.int .u8 0) 1 Try.underlying28 info5b rfl (by decide) (ok := fun b => wr.heap.size ≤ b) (okp := fun _ => False) (lo := wr.heap.size) (v := .slice none 0 0) (xs := []) (ys := o.take j) (by go_simp) (Own.nil _ _ _ _ _) (A := some ad2) (m := j) (c := co') (by go_simp) (Kn.Cf_scalar (fun _ => False) (Kn.C_below HTK.out (Below.refl _ _).drew)) (fun b hb _ => hb.elim) (fun b hb => hb) (Nat.le_refl _) (by have := HB.out; simp; omega) ?_; intro v1 w1 hO1 hg1 hat1; have hb1 := below_of_grown_none hg1; have hO1' := Aside.mk hO1; have HB1 := Aside.mk (show Below wr.heap.size wr w1 from Below.trans (Below.refl _ _).drew hb1); clear hO1 hg1 hat1 hb1) | (refine step_append_Own (P := Try.prog) _ (by rfl) kU8 (.tmp 132) (.tmp 136) 28 5 (by rfl) (.int .u8 0) 1 Try.underlying28 info5b rfl (by decide) (ok := fun b => wr.heap.size ≤ b) (okp := fun _ => False) (lo := wr.heap.size) (v := v1) (xs := o.take j) (ys := o.drop (j + 1)) (by go_simp) hO1'.out (A := some (ad2.add (j + 1))) (m := o.length - (j + 1)) (c := co' - (j + 1)) (by go_simp) (Kn.Cf_scalar (fun _ => False) (Kn.C_below HDr2.out HB1.out)) (fun b hb _ => hb.elim) (fun b hb => (by have hb' := hb; have := HB1.out.size; omega)) HB1.out.size (by have := HB.out; simp; omega) ?_; intro v2 w2 hO2 hg2 hat2; have hO2' := Aside.mk hO2; have HB2 := Aside.mk (HB1.out.grown hg2 HB1.out.size (fun b hb => (hO1'.out.ge b hb).1)); clear hO2 hg2 hat2))
    all_goals
      go_wp2_with fail
      have hO3 := hO2'.out
      rw [erase_parts'] at hO3
      exact HQ.out _ _ _ _ _ _ _ _ _ _ _ ⟨hO3, HB2.out⟩
end Go.Proofs.Ytmeeldcgmfplnaa
