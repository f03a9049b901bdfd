/- PART of the proof of BrokerNil: see YtfcjpkigaagnaaaGreatDoorYtCard. -/
import Derived.Test.YtfcjpkigaagnaaaGreatDoorRows
import Derived.Test.YtfcjpkigaagnaaaGreatDoorYtTie
import Derived.Test.YtfcjpkigaagnaaaGreatDoorCards
import Derived.Test.YtfcjpkigaagnaaaGreatDoorYtRun
import Derived.Test.YtfcjpkigaagnaaaGreatDoorYtNat
import Derived.Test.YtfcjpkigaagnaaaGreatDoorYtHng
import Derived.ProofKit
import Derived.SizedLaws
import Derived.LaidMore
import Derived.Lay
import Derived.OpenShut
import Derived.Stop.Joined
import Derived.SevenTiedAt
set_option linter.unusedVariables false
set_option linter.unusedSimpArgs false
set_option maxRecDepth 100000
namespace Go.Proofs.YtfcjpkigaagnaaaGreatDoor
open Go.ChangeShapes Go.WideShapes Go.ChangeAt Go.RowKit Go.Ev
namespace BrokerNil
theorem own : ownKnob Tryz.prog.godebug = none := by kernel_rfl
theorem laidOut : laidOutB Tryz.prog = true := by kernel_rfl
theorem calls {W : World} {L : List Value} {ras : List Value} (hL : ∀ v ∈ L, v.oneCell' = true) (hg : ∀ g tab, (g, tab) ∈ globs → GlobIs (omegaL L) W g tab) (hvs : VRs (omegaL L) (startMp W) [.agg (unkL 0 6).toArray, .chan (some 6)] ras) :
    Calls Tryz.prog 3 ras.toArray W fun e W' => e = .returned (.bool true) ∧ Below W.heap.size W W' := by
  obtain ⟨code, hcode⟩ : ∃ code, Tryz.f3.body = some code := Option.isSome_iff_exists.1 (by kernel_rfl)
  exact calls_true (ω := omegaL L) (evalCall_ok (by kernel_rfl) (omegaL_one hL) natK_fr natK_ok hngT 1000000) Tryz.func3 (by kernel_rfl) hcode hg run_true hvs
theorem door_met (os : Os) (args : Array Value) : laidMetH Tryz.prog Rows.brokerNilRow.laid ((World.laidAll Tryz.prog os Rows.brokerNilRow.laid).forCall (fun _ _ => 0) ⟨#[], args, []⟩).memory := by
  rw [MakeChecks.laidMetH_plain _ _ _ (by kernel_rfl)]
  exact laidMet_laidAll _ (by kernel_rfl) (by kernel_rfl)

theorem laid_ErrSyntax {W : World} (h : laidMet Tryz.prog Rows.brokerNilRow.laid W) : ∃ v : Value, v.oneCell' = true ∧ ∀ (ω : Nat → Value) (k : Nat), ω k = v → GlobIs ω W 1 [.chan (some k)] :=
  ifaceIs_of_laid (t := 217) (by kernel_rfl) (by kernel_rfl) Tryz.underlying217 (by omega) h (List.mem_cons_self)
theorem laid_ErrRange {W : World} (h : laidMet Tryz.prog Rows.brokerNilRow.laid W) : ∃ v : Value, v.oneCell' = true ∧ ∀ (ω : Nat → Value) (k : Nat), ω k = v → GlobIs ω W 2 [.chan (some k)] :=
  ifaceIs_of_laid (t := 217) (by kernel_rfl) (by kernel_rfl) Tryz.underlying217 (by omega) h (List.mem_cons_of_mem _ List.mem_cons_self)
theorem laid_pow10 {ω : Nat → Value} {W : World} (h : laidMet Tryz.prog Rows.brokerNilRow.laid W) : GlobIs ω W 3 (pow10.map fun z => .int .u64 z) :=
  globIs_of_laid (t := 581) (e := 151) (m := 20) (k := .u64) (zs := pow10) (by kernel_rfl) (by kernel_rfl) (by kernel_rfl) (by kernel_rfl) (by kernel_rfl) (by kernel_rfl) (by omega) (by decide) h (List.mem_cons_of_mem _ (List.mem_cons_of_mem _ List.mem_cons_self))
theorem laid_tab64 {ω : Nat → Value} {W : World} (h : laidMet Tryz.prog Rows.brokerNilRow.laid W) : GlobIs ω W 6 (tab64.map fun z => .int .u8 z) :=
  globIs_of_laid (t := 620) (e := 5) (m := 64) (k := .u8) (zs := tab64) (by kernel_rfl) (by kernel_rfl) (by kernel_rfl) (by kernel_rfl) (by kernel_rfl) (by kernel_rfl) (by omega) (by decide) h (List.mem_cons_of_mem _ (List.mem_cons_of_mem _ (List.mem_cons_of_mem _ (List.mem_cons_of_mem _ List.mem_cons_self))))
set_option maxRecDepth 100000 in
theorem lifted (os : Os) (started : os.Started) (H : Type) (enc : TypeId × Value → H) :
    ReturnsInHanded {} Tryz.checked os 3 .any (fun w args => (Rows.brokerNilSpec.pre enc Tryz.prog Tryz.f3 [] false w args ∧ laidMetH Tryz.prog Rows.brokerNilRow.laid w) ∧ sizedMet enc Tryz.prog Tryz.f3 (OpenSpec.ofChange Rows.brokerNilSpec) false w args)
      (Rows.brokerNilSpec.post enc Tryz.prog Tryz.f3 false true false false) := by
  refine returnsInHanded_of_change_and (C := Tryz.checked) (X := fun w _ => laidMetH Tryz.prog Rows.brokerNilRow.laid w) (fun _ _ _ hh h => h.of_heap hh) own started (by kernel_rfl) Tryz.func3
    (ChangeSpec.witness_shaped (enc := enc) (C := Tryz.checked) (os := os) (X := fun w _ => laidMetH Tryz.prog Rows.brokerNilRow.laid w) false (World.laidAll Tryz.prog os Rows.brokerNilRow.laid) #[.agg #[.int .i64 0, .int .i64 0, .slice none 0 0, .int .i64 0, .int .i64 0, .slice none 0 0], .int .i64 0] 8 (World.laidAll_os _ _ _) (World.shaped_of_ZipB (by kernel_rfl) (by kernel_rfl)) (by kernel_rfl) (by kernel_rfl) (by kernel_rfl) (door_met os _)) ?_
  intro W base args ds gs before hval0 hW _ _ hL _
  have hval : ∀ (j : Nat) t v, Tryz.f3.params[j]? = some t → args[j]? = some v → Value.okWide Tryz.prog W .any base t v := hval0
  have hW' := hW
  obtain ⟨p, q, hA0, hV, rfl, hfz, hnd⟩ := hW
  have hA : DataW.TrodAll enc Tryz.prog W 0 (fun _ => true) true Tryz.f3.params.toList args.toList ds p := hA0
  have hlt := hW'.lt
  rw [Tryz.params3] at hA hval
  obtain ⟨v0, v1, d0, d1, p0, p1, rfl, rfl, rfl, h0, h1⟩ := trodAll_two hA
  obtain ⟨rfl, rfl⟩ := trodVars_none hV
  rw [MakeChecks.laidMetH_plain _ _ _ (by kernel_rfl)] at hL

  obtain ⟨e0, he0, hge0⟩ := laid_ErrSyntax hL
  obtain ⟨e1, he1, hge1⟩ := laid_ErrRange hL
  obtain ⟨cs0, rfl, hn0, ho0⟩ := struct_arg (n := 6) Tryz.underlying25 (by kernel_rfl) (hval 0 25 v0 rfl rfl)
  obtain ⟨n1, rfl, _, _, _⟩ := open_int Tryz.underlying3 (hval 1 3 v1 rfl rfl) h1
  clear hA0 hval0
  simp only [List.append_nil] at hW' hlt
  obtain ⟨L, hLd⟩ : ∃ L : List Value, L = (cs0.toList : List Value) ++ [.int .i64 n1] ++ [e0] ++ [e1] := ⟨_, rfl⟩
  have hl0 : cs0.toList.length = 6 := by simpa using hn0
  have hone : ∀ v ∈ L, v.oneCell' = true := by
    intro v hv
    rw [hLd] at hv
    simp only [List.mem_append, List.mem_singleton] at hv
    rcases hv with ((hv | hv) | hv) | hv
    · exact ho0 _ hv
    · rw [hv]; rfl
    · rw [hv]; exact he0
    · rw [hv]; exact he1
  have hgl : ∀ g tab, (g, tab) ∈ globs → GlobIs (omegaL L) W g tab := by
    intro g tab hm
    unfold globs at hm
    simp only [List.mem_cons, List.not_mem_nil, or_false, Prod.mk.injEq] at hm
    rcases hm with ⟨rfl, rfl⟩ | ⟨rfl, rfl⟩ | ⟨rfl, rfl⟩ | ⟨rfl, rfl⟩
    · refine hge0 _ 7 ?_
      rw [hLd]; simp [omegaL, List.getD_eq_getElem?_getD, List.getElem?_append, hl0, hn0]
    · refine hge1 _ 8 ?_
      rw [hLd]; simp [omegaL, List.getD_eq_getElem?_getD, List.getElem?_append, hl0, hn0]
    · exact laid_pow10 hL
    · exact laid_tab64 hL
  have hva0 : VR (omegaL L) (startMp W) (.agg (unkL 0 6).toArray) (.agg cs0) := VR.unkAgg hn0 fun j v hj => by
    have hj' : cs0.toList[j]? = some v := by simpa using hj
    have hjl : j < cs0.toList.length := (List.getElem?_eq_some_iff.1 hj').1
    have hjs : j < cs0.size := by simpa using hjl
    rw [hLd]; unfold omegaL; rw [List.getD_eq_getElem?_getD]; simp [List.getElem?_append, hj, hjs]
    exact (Array.getElem?_eq_some_iff.1 hj).2
  have hva1 : VR (omegaL L) (startMp W) (.chan (some 6)) (.int .i64 n1) := by
    have e : omegaL L 6 = .int .i64 n1 := by rw [hLd]; simp [omegaL, List.getD_eq_getElem?_getD, List.getElem?_append, hl0, hn0]
    rw [← e]; exact VR.unknown 6
  refine (calls hone hgl (VRs.cons hva0 (VRs.cons hva1 VRs.nil))).mono fun e W' ⟨he, hb⟩ => ?_
  subst he
  refine ⟨_, rfl, _, _, _, [], p0 ++ p1, [], hW', trodAll_mk1 (shut_bool Tryz.underlying4 true), ?_, rfl, hb.frame _, fun h => by cases h⟩
  exact trodAll_mk2 (Below.trod laidOut (by kernel_rfl) (of_decide_eq_true (by kernel_rfl)) h0 hb (fun x hx => hlt x (by simp [hx]))) (Below.trod laidOut (by kernel_rfl) (of_decide_eq_true (by kernel_rfl)) h1 hb (fun x hx => hlt x (by simp [hx])))

end BrokerNil
end Go.Proofs.YtfcjpkigaagnaaaGreatDoor
