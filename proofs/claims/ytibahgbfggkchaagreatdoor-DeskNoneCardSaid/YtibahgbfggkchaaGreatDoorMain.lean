/- Whatever ask and handle it is handed, the law 'tracerylaw32.DeskNone' returns true, and its arguments read as before; the listed variables are tied to the program's text. -/
import Derived.Test.YtibahgbfggkchaaGreatDoorRun
import Derived.Test.YtibahgbfggkchaaGreatDoorFactA
import Derived.Test.YtibahgbfggkchaaGreatDoorFactB
import Derived.Test.YtibahgbfggkchaaGreatDoorFactC
import Derived.Test.YtibahgbfggkchaaGreatDoorFactD
import Derived.Test.YtibahgbfggkchaaGreatDoorFactE
import Derived.Test.YtibahgbfggkchaaGreatDoorStart
import Derived.Test.YtibahgbfggkchaaGreatDoorTiedRun
import Derived.Test.YtibahgbfggkchaaGreatDoorTiedPins
import Derived.Test.YtibahgbfggkchaaGreatDoorCards
import Derived.ProofKit
import Derived.OpenShut
import Derived.LaidMore
import Derived.Lay
import Derived.Carry
import Derived.SevenTiedAt
import Derived.Stop.Joined
namespace Go.Proofs.YtibahgbfggkchaaGreatDoor
open Go Go.ChangeShapes Go.WideShapes Go.ChangeAt Go.RowKit Go.Aev

/-! ### the tie -/

theorem tie : Tryz.prog.laidByTextLater laidL [LaidKind.sentinel, .sentinel, .data, .data, .data, .data, .data, .data] true :=
  Program.laidByTextLater_by_one 400 8 65 tied_w tied_w' tied_root tied_kinds tied_there tied_named tied_run

theorem row_tie : Rows.deskNoneRow.laidByTextAt .later Tryz.pinned [.sentinel, .sentinel, .data, .data, .data, .data, .pinned, .data, .pinned, .pinned, .data] true :=
  OpenClaim.laidByTextAt_pinned rfl rfl tie rfl rfl rfl rfl (fun y hy _e => by
    simp only [Rows.deskNoneRow, List.zip_cons_cons, List.zip_nil_right, List.mem_cons, List.mem_nil_iff, or_false] at hy
    rcases hy with rfl | rfl | rfl | rfl | rfl | rfl | rfl | rfl | rfl | rfl | rfl
    · cases _e
    · cases _e
    · cases _e
    · cases _e
    · cases _e
    · cases _e
    · exact ⟨pin_pow10Tab, datum_pow10Tab⟩
    · cases _e
    · exact ⟨pin_leftcheats, datum_leftcheats⟩
    · exact ⟨pin_first, datum_first⟩
    · cases _e) listed_fits

/-! ### the argument -/

theorem one_of_okWide {P : Program} {w : World} {r : Reach} {base : Nat} {u : TypeId} {v : Value} (h : Cell.okWide P w r base u v) : v.oneCell = true := by
  cases v <;> first
    | rfl
    | (exfalso
       unfold Cell.okWide Cell.ok at h
       cases hq : P.underlying u with
       | none => simp [hq] at h
       | some d => cases d <;> simp [hq] at h)

theorem cells_ask : Tryz.prog.cellsOf 27 = 8 := by kernel_rfl
theorem readable_ask : Tryz.prog.readableRec 27 = true := by kernel_rfl
theorem row_ask : decide (27 < Tryz.prog.types.size) = true := by kernel_rfl

theorem struct_cells {P : Program} {t : TypeId} {n : Nat} {fs : Array Field} (hs : P.underlying t = some (.struct fs)) (hn : P.cellsOf t = n) {W : World} {base : Nat} {v : Value} (h : Value.okWide P W .any base t v) :
    ∃ l : List Value, v = .agg ⟨l⟩ ∧ l.length = n ∧ ∀ (i : Nat) (u : Value), l[i]? = some u → u.oneCell = true := by
  simp only [Value.okWide, hs] at h
  obtain ⟨cs, rfl, hsz, ts, _, _, hc⟩ := h
  obtain ⟨l⟩ := cs
  refine ⟨l, rfl, by simpa using hsz.trans hn, fun i u hi => ?_⟩
  obtain ⟨x, _, hx⟩ := hc i u (by simpa using hi)
  exact one_of_okWide hx

theorem ask_cells {l : List Value} (hl : l.length = 8) (ho : ∀ (i : Nat) (u : Value), l[i]? = some u → u.oneCell = true) (b : Int) : VRels (fun _ => none) [anyAsk, .other (.int .i64 0)] [.agg ⟨l⟩, .int .i64 b] := by
  match l, hl with
  | [c0, c1, c2, c3, c4, c5, c6, c7], _ =>
    refine .cons (.agg ?_) (.cons (.other _ fun _ => rfl) .nil)
    exact .cons (.other _ fun _ => ho 0 c0 rfl) (.cons (.other _ fun _ => ho 1 c1 rfl) (.cons (.other _ fun _ => ho 2 c2 rfl) (.cons (.other _ fun _ => ho 3 c3 rfl)
      (.cons (.other _ fun _ => ho 4 c4 rfl) (.cons (.other _ fun _ => ho 5 c5 rfl) (.cons (.other _ fun _ => ho 6 c6 rfl) (.cons (.other _ fun _ => ho 7 c7 rfl) .nil)))))))

set_option maxRecDepth 100000 in
theorem ask_rel {W : World} {base : Nat} {v : Value} (h : Value.okWide Tryz.prog W .any base 27 v) (b : Int) : VRels (fun _ => none) [anyAsk, .other (.int .i64 0)] [v, .int .i64 b] := by
  obtain ⟨l, rfl, hl, ho⟩ := struct_cells (P := Tryz.prog) (t := 27) (n := 8) (W := W) (base := base) (v := v) Tryz.underlying27 cells_ask h
  exact ask_cells hl ho b

/-! ### the row -/

set_option maxRecDepth 100000 in
theorem lifted (os : Os) (started : os.Started) (H : Type) (enc : TypeId × Value → H) :
    ReturnsInHanded {} Tryz.checked os 3 .any (fun w args => (Rows.deskNoneSpec.pre enc Tryz.prog Tryz.f3 Rows.deskNoneRow.domain false w args ∧ laidMetH Tryz.prog Rows.deskNoneRow.laid w) ∧ sizedMet enc Tryz.prog Tryz.f3 (OpenSpec.ofChange Rows.deskNoneSpec) false w args)
      (Rows.deskNoneSpec.post enc Tryz.prog Tryz.f3 false true false false) := by
  refine returnsInHanded_of_change_and (C := Tryz.checked) (X := fun w _ => laidMetH Tryz.prog Rows.deskNoneRow.laid w) (fun _ _ _ hh h => h.of_heap hh) own started (by kernel_rfl) Tryz.func3
    (ChangeSpec.witness_shaped (enc := enc) (C := Tryz.checked) (os := os) (X := fun w _ => laidMetH Tryz.prog Rows.deskNoneRow.laid w) false (World.laidAll Tryz.prog os Rows.deskNoneRow.laid) startArgs 8 (World.laidAll_os _ _ _)
      (World.shaped_of_ZipB (st_zip os) (st_rest os)) (st_fits os) (st_pre os H enc) (st_sized os H enc)
      (by rw [MakeChecks.laidMetH_plain _ _ _ st_plain]; exact laidMet_laidAll _ (st_lay os) (st_ifaces os))) ?_
  intro W base args ds gs before hval0 hW _ _ _ _
  have hval : ∀ (j : Nat) t v, Tryz.f3.params[j]? = some t → args[j]? = some v → Value.okWide Tryz.prog W .any base t v := hval0
  have hW' := hW
  obtain ⟨p, q, hA0, hV, rfl, _, _⟩ := hW
  have hA : DataW.TrodAll enc Tryz.prog W 0 (fun _ => true) true Tryz.f3.params.toList args.toList ds p := hA0
  rw [Tryz.params3] at hA hval
  obtain ⟨v0, v1, d0, d1, p0, p1, rfl, rfl, rfl, h0, h1⟩ := trodAll_two hA
  obtain ⟨rfl, rfl⟩ := trodVars_none hV
  obtain ⟨b, rfl, rfl, rfl, wb⟩ := open_int Tryz.underlying3 (hval 1 3 v1 rfl rfl) h1
  have hrel := ask_rel (hval 0 27 v0 rfl rfl) b
  clear hA0 hval0
  simp only [List.append_nil] at hW'
  have hlt : ∀ x ∈ p0, x.block < W.heap.size := fun x hx => hW'.lt x (by simpa using hx)
  refine (law_true #[v0, .int .i64 b] hrel W).mono fun e W' ⟨he, hx⟩ => ?_
  subst he
  have hb : Below W.heap.size W W' := ⟨hx.os, hx.tape, hx.output, hx.size, hx.block⟩
  refine ⟨_, rfl, _, _, _, [], p0, [], hW', trodAll_mk1 (shut_bool Tryz.underlying4 _), ?_, rfl, hb.frame _, fun h => by cases h⟩
  have := trodAll_mk2 (Below.trod k2 readable_ask (of_decide_eq_true row_ask) h0 hb hlt) (shut_int (base := 0) (spare := fun b => decide (b < W.heap.size)) (held := true) (w := W') (enc := enc) Tryz.underlying3 wb)
  rw [List.append_nil] at this
  exact this

theorem and_t {a b : Bool} (h : a = true) (g : b = true) : (a && b) = true := by rw [h, g]; rfl

theorem row_closed : joinedFacts Tryz.pinned.checked.prog 3 Tryz.f3 Rows.deskNoneSpec Rows.deskNoneRow = true := by
  show joinedFacts Tryz.prog 3 Tryz.f3 Rows.deskNoneSpec Rows.deskNoneRow = true
  unfold joinedFacts
  rw [k1, k2, k3, k4, k5, k6, k7, k8, k9, k10, k11, k12, k13, k14, k15, k16, k17, k17b, k18, k19, k20, k21, k22, k23, k23b, k24, k24b, k24c, k26, k27, k28, if_pos (show Rows.deskNoneRow.domain.isEmpty = true from rfl)]
  rfl

theorem holds : Rows.DeskNoneSaid :=
  OpenClaim.holds_of_wide 3 Tryz.f3 rfl rfl rfl rfl rfl rfl rfl ⟨rfl, rfl, rfl, rfl, rfl⟩ rfl rfl rfl rfl rfl func_named Tryz.func3 row_closed
    (of_decide_eq_true (by kernel_rfl)) (by unfold Func.isWrapper; first | (rw [if_pos (by decide +kernel)]; kernel_rfl) | (rw [if_neg (by decide +kernel)]; exact ⟨rfl, rfl⟩))
    (fun os started H enc _ => lifted os started H enc)

theorem card_holds : Rows.DeskNoneCardSaid :=
  Claim7.holds_tied_plain_at .later [] [.sentinel, .sentinel, .data, .data, .data, .data, .pinned, .data, .pinned, .pinned, .data] true (true, "3678dc8afdc987d043c76fe0248642f6f3f2c499c77d3454fa6e416b5c56c2bf") true holds (fun _ h => by cases h) wf_by_text (fun _ h => by cases h) row_tie rfl ⟨rfl, rfl⟩ main_is rfl
    (fun f fn hf hfn => by
      obtain rfl : f = 3 := Option.some.inj (func_named.symm.trans hf) |>.symm
      obtain rfl : fn = Tryz.f3 := (Option.some.inj (Tryz.func3.symm.trans hfn)).symm
      exact ⟨looks_is, fun j t ht => by
        rw [Tryz.params3] at ht
        have hm : t ∈ [27, 3] := by simpa using Array.mem_of_getElem? ht
        exact (show Tryz.prog.wantsStandIn t = false by simpa using List.all_eq_true.1 stand_ins t hm)⟩)
    goes_is
#print axioms card_holds
end Go.Proofs.YtibahgbfggkchaaGreatDoor
