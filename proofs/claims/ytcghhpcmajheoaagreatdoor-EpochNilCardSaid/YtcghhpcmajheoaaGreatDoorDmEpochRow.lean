/-
  EpochNil: the row and its card.
-/
import Derived.Test.YtcghhpcmajheoaaGreatDoorDmEpoch
import Derived.Test.YtcghhpcmajheoaaGreatDoorDmEpochFacts
import Derived.Test.YtcghhpcmajheoaaGreatDoorCards
import Derived.Test.YtcghhpcmajheoaaGreatDoorTie
namespace Go.Proofs.YtcghhpcmajheoaaGreatDoor
open Go Go.DM Go.ChangeShapes Go.WideShapes Go.ChangeAt Go.RowKit
set_option maxRecDepth 1000000

theorem own_knob : ownKnob Tryz.prog.godebug = none := by kernel_rfl
theorem laid_out : laidOutB Tryz.prog = true := by kernel_rfl
def zsBegin : List Int := [1779033703, 3144134277, 1013904242, 2773480762, 1359893119, 2600822924, 528734635, 1541459225]
def zsRounds : List Int := [1116352408, 1899447441, 3049323471, 3921009573, 961987163, 1508970993, 2453635748, 2870763221, 3624381080, 310598401, 607225278, 1426881987, 1925078388, 2162078206, 2614888103, 3248222580, 3835390401, 4022224774, 264347078, 604807628, 770255983, 1249150122, 1555081692, 1996064986, 2554220882, 2821834349, 2952996808, 3210313671, 3336571891, 3584528711, 113926993, 338241895, 666307205, 773529912, 1294757372, 1396182291, 1695183700, 1986661051, 2177026350, 2456956037, 2730485921, 2820302411, 3259730800, 3345764771, 3516065817, 3600352804, 4094571909, 275423344, 430227734, 506948616, 659060556, 883997877, 958139571, 1322822218, 1537002063, 1747873779, 1955562222, 2024104815, 2227730452, 2361852424, 2428436474, 2756734187, 3204031479, 3329325298]
def zs32 : List Int := [0, 1, 28, 2, 29, 14, 24, 3, 30, 22, 20, 15, 25, 17, 4, 8, 31, 27, 13, 23, 21, 19, 16, 7, 26, 12, 18, 6, 11, 5, 10, 9]
def zs64 : List Int := [0, 1, 56, 2, 57, 49, 28, 3, 61, 58, 42, 50, 38, 29, 17, 4, 62, 47, 59, 36, 45, 43, 51, 22, 53, 39, 33, 30, 24, 18, 12, 5, 63, 55, 48, 27, 60, 41, 37, 16, 46, 35, 44, 21, 52, 32, 23, 11, 54, 26, 40, 15, 34, 20, 31, 10, 25, 14, 19, 9, 13, 8, 7, 6]

/-- What the row's condition lays: the four tables. -/
theorem tables_of_laid {W : World} (h : laidMetH Tryz.prog Rows.epochNilRow.laid W) : ∀ g cs, (g, cs) ∈ gsE → ∃ row u, W.heap[g]? = some (.cells row u (0, 0)) ∧ row.size = cs.length ∧ ∀ ρ, VsRel ρ cs row.toList := by
  have hL : laidMet Tryz.prog Rows.epochNilRow.laid W := h
  intro g cs hm
  rcases gsE_mem hm with ⟨rfl, rfl⟩ | ⟨rfl, rfl⟩ | ⟨rfl, rfl⟩ | ⟨rfl, rfl⟩
  · obtain ⟨u, hu⟩ := laid_tab (zs := zsBegin) (k := .u32) hL (.tail _ (.tail _ (.head _))) (by kernel_rfl : Tryz.prog.globalNamed "rolodex/hash.begin" = some 0) (by kernel_rfl : (Tryz.prog.globals[0]?).map (·.type) = some 183) Tryz.underlying183 Tryz.underlying160 (by kernel_rfl) (by kernel_rfl) (by decide)
    exact ⟨_, u, hu, rfl, fun ρ => ints_rel ρ .u32 zsBegin⟩
  · obtain ⟨u, hu⟩ := laid_tab (zs := zsRounds) (k := .u32) hL (.tail _ (.tail _ (.tail _ (.head _)))) (by kernel_rfl : Tryz.prog.globalNamed "rolodex/hash.rounds" = some 1) (by kernel_rfl : (Tryz.prog.globals[1]?).map (·.type) = some 204) Tryz.underlying204 Tryz.underlying160 (by kernel_rfl) (by kernel_rfl) (by decide)
    exact ⟨_, u, hu, rfl, fun ρ => ints_rel ρ .u32 zsRounds⟩
  · obtain ⟨u, hu⟩ := laid_tab (zs := zs32) (k := .u8) hL (.head _) (by kernel_rfl : Tryz.prog.globalNamed "math/bits.deBruijn32tab" = some 2) (by kernel_rfl : (Tryz.prog.globals[2]?).map (·.type) = some 25) Tryz.underlying25 Tryz.underlying5 (by kernel_rfl) (by kernel_rfl) (by decide)
    exact ⟨_, u, hu, rfl, fun ρ => ints_rel ρ .u8 zs32⟩
  · obtain ⟨u, hu⟩ := laid_tab (zs := zs64) (k := .u8) hL (.tail _ (.head _)) (by kernel_rfl : Tryz.prog.globalNamed "math/bits.deBruijn64tab" = some 3) (by kernel_rfl : (Tryz.prog.globals[3]?).map (·.type) = some 219) Tryz.underlying219 Tryz.underlying5 (by kernel_rfl) (by kernel_rfl) (by decide)
    exact ⟨_, u, hu, rfl, fun ρ => ints_rel ρ .u8 zs64⟩

theorem door_met (os : Os) (args : Array Value) : laidMetH Tryz.prog Rows.epochNilRow.laid ((World.doorLaid Tryz.prog 29 os).forCall (fun _ _ => 0) ⟨#[], args, []⟩).memory :=
  laidMetH_of_parts3 (fuel := 8) (laidMet_of_run' 8 (by kernel_rfl) (by kernel_rfl)) (by kernel_rfl) (by kernel_rfl)

theorem lifted (os : Os) (started : os.Started) (H : Type) (enc : TypeId × Value → H) :
    ReturnsInHanded {} Tryz.checked os 3 .any (fun w args => (Rows.epochNilSpec.pre enc Tryz.prog Tryz.f3 [] false w args ∧ laidMetH Tryz.prog Rows.epochNilRow.laid w) ∧ sizedMet enc Tryz.prog Tryz.f3 (OpenSpec.ofChange Rows.epochNilSpec) false w args)
      (Rows.epochNilSpec.post enc Tryz.prog Tryz.f3 false true false false) := by
  refine returnsInHanded_of_change_and (C := Tryz.checked) (X := fun w _ => laidMetH Tryz.prog Rows.epochNilRow.laid w) (fun _ _ _ hh h => h.of_heap hh) own_knob started (by kernel_rfl) Tryz.func3
    (ChangeSpec.witness_shaped (enc := enc) (C := Tryz.checked) (os := os) (X := fun w _ => laidMetH Tryz.prog Rows.epochNilRow.laid w) false (World.doorLaid Tryz.prog 29 os) #[.slice none 0 0, .int .i64 0] 8 rfl (World.shaped_of_RefB (by kernel_rfl) (by kernel_rfl)) (by kernel_rfl) (by kernel_rfl) (by kernel_rfl) (door_met os _)) ?_
  intro W base args ds gs before hval0 hW _ _ hL _
  have hval : ∀ (j : Nat) t v, Tryz.f3.params[j]? = some t → args[j]? = some v → Value.okWide Tryz.prog W .any base t v := hval0
  have hW' := hW
  obtain ⟨p, q, hA0, hV0, rfl, hfz, hnd⟩ := hW
  have hA : DataW.TrodAll enc Tryz.prog W 0 (fun _ => true) true Tryz.f3.params.toList args.toList ds p := hA0
  obtain ⟨rfl, rfl⟩ := trodVars_none hV0
  rw [Tryz.params3] at hA hval
  obtain ⟨v0, v1, d0, d1, p0, p1, rfl, rfl, rfl, h0, h1⟩ := trodAll_two hA
  obtain ⟨e, rfl, rfl, rfl, we⟩ := open_int Tryz.underlying3 (hval 1 3 v1 rfl rfl) h1
  refine (law_calls (tables_of_laid hL) (slice_arg Tryz.underlying22 (hval 0 22 v0 rfl rfl))).mono fun ex W' ⟨he, hb⟩ => ⟨_, he, ?_⟩
  exact post_true (tb := 4) laid_out (by rw [Tryz.params3]; intro t ht; simp at ht; rcases ht with rfl | rfl <;> exact ⟨by kernel_rfl, of_decide_eq_true (by kernel_rfl)⟩) rfl Tryz.underlying4 rfl hW' rfl hb

theorem epochNil_holds : Rows.EpochNilSaid :=
  OpenClaim.holds_of_wide 3 Tryz.f3 rfl rfl rfl rfl rfl rfl rfl ⟨rfl, rfl, rfl, rfl, rfl⟩ rfl rfl rfl rfl rfl epochNil_named Tryz.func3 epochNil_facts
    epochNil_inst epochNil_wrap (fun os started H enc _ => lifted os started H enc)

theorem epochNil_card : Rows.EpochNilCardSaid :=
  Claim7.holds_tied_plain_at .later [] [.data, .data, .data, .data] true (true, "9c21df0947b62201496923941d76732521117b7ed6b7bed87fcb8606967f5424") false
    epochNil_holds (fun _ h => by cases h) (by as_aux_lemma => kernel_rfl) (fun _ h => by cases h) epochNil_row_tie rfl ⟨rfl, rfl⟩ (by as_aux_lemma => kernel_rfl) rfl
    (fun f fn hf hfn => by
      obtain rfl : f = 3 := Option.some.inj ((show Tryz.prog.funcNamed "rolodex/rolodexlaw19.EpochNil" = some 3 by as_aux_lemma => kernel_rfl).symm.trans hf) |>.symm
      obtain rfl : fn = Tryz.f3 := (Option.some.inj (Tryz.func3.symm.trans hfn)).symm
      exact ⟨by as_aux_lemma => kernel_rfl, fun j t ht => by
        rw [Tryz.params3] at ht
        have h3 : t = 22 ∨ t = 3 := by
          rcases j with _ | _ | j
          · left; simpa using ht.symm
          · right; simpa using ht.symm
          · simp at ht
        rcases h3 with rfl | rfl
        · exact (show Tryz.prog.wantsStandIn 22 = false by as_aux_lemma => kernel_rfl)
        · exact (show Tryz.prog.wantsStandIn 3 = false by as_aux_lemma => kernel_rfl)⟩)
    (by as_aux_lemma => kernel_rfl)
end Go.Proofs.YtcghhpcmajheoaaGreatDoor
