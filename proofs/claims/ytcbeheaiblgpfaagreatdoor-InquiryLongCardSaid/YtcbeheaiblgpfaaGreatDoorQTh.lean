/- Proved here: InquiryLongCardSaid: for every four ints laganlaw09.InquiryLong ends and returns true, and its arguments read as before (WriteAnswer and ReadAnswer keep their limits, on numbers that are all the same; and known() is true). Conditions: those of the card: the listed package-level variables read at the call's begin as the program's text lays them; of internal/bytealg.MaxLen nothing is asked but that it holds an int. -/
import Derived.Test.YtcbeheaiblgpfaaGreatDoorCards
import Derived.SevenTiedAt
import Derived.LaidSub
import Derived.Test.YtcbeheaiblgpfaaGreatDoorQSg
import Derived.Test.YtcbeheaiblgpfaaGreatDoorQTb
import Derived.Test.YtcbeheaiblgpfaaGreatDoorQTf
import Derived.Test.YtcbeheaiblgpfaaGreatDoorQTg
set_option linter.unusedVariables false
set_option linter.unusedSimpArgs false
noncomputable section
namespace Go.Proofs.YtcbeheaiblgpfaaGreatDoor
open Go
set_option maxRecDepth 100000
theorem jau : Tryz.prog.laidByTextLater [("math/bits.deBruijn32tab", Rows.laid_math_bits_deBruijn32tab), ("math/bits.deBruijn64tab", Rows.laid_math_bits_deBruijn64tab), ("internal/strconv.uint64pow10", Rows.laid_internal_strconv_uint64pow10), ("unicode/utf8.acceptRanges", Rows.laid_unicode_utf8_acceptRanges), ("strconv.ErrRange", Rows.laid_strconv_ErrRange), ("strconv.ErrSyntax", Rows.laid_strconv_ErrSyntax)] [.data, .data, .data, .data, .sentinel, .sentinel] true :=
  Program.laidByTextLater_by_one 72 8 65 aaq yap xap daq iau caq saI
theorem taI : Rows.inquiryLongRow.laidByTextAt .later Tryz.pinned [.data, .data, .data, .data, .sentinel, .sentinel, .pinned] true :=
  OpenClaim.laidByTextAt_pinned rfl rfl jau rfl rfl rfl rfl (fun y hy _e => by
    simp only [Rows.inquiryLongRow, List.zip_cons_cons, List.zip_nil_right, List.mem_cons, List.mem_nil_iff, or_false] at hy
    rcases hy with rfl | rfl | rfl | rfl | rfl | rfl | rfl
    · cases _e
    · cases _e
    · cases _e
    · cases _e
    · cases _e
    · cases _e
    · exact ⟨uaI, by kernel_rfl⟩) lau
theorem caK : Rows.inquiryLongRow.wfByText (OpenSpec.ofChange Rows.inquiryLongSpec) = true := by kernel_rfl
theorem vas : Tryz.prog.mainIs = some (true, "5fe4f2994bcfcb18a573ba9b76c2139879dc70faabe354a7a6f3c4e0ac6ce8ec".toList) := by kernel_rfl
theorem pao : true = Tryz.prog.looks [] := by kernel_rfl
theorem noGo : Tryz.prog.funcs.any Func.goes = false := by kernel_rfl
theorem eav {fs : Array Func} {q : Func → Bool} (h : fs.any q = false) (l : List Nat) : (l.any fun g => (fs[g]?).any q) = false := by
  rw [List.any_eq_false]
  intro g _
  cases hg : fs[g]? with
  | none => simp
  | some f =>
    obtain ⟨hi, hf⟩ := Array.getElem?_eq_some_iff.1 hg
    have := Array.any_eq_false.1 h g hi
    rw [hf] at this
    simpa using this
theorem zaJ {P : Program} (h : P.funcs.any Func.goes = false) (f : Nat) : P.goes f = false := by
  unfold Program.goes
  rw [eav h, h, Bool.and_false]
  rfl
theorem yaJ {P : Program} {c : OpenClaim} (h : P.funcs.any Func.goes = false) (hs : c.start = .entering) : false = c.goesBy P := by
  unfold OpenClaim.goesBy Program.goesAt Program.goesFrom
  rw [hs]
  cases P.funcNamed c.func with
  | none => rfl
  | some f => simp [zaJ h]
theorem xas : false = Rows.inquiryLongRow.goesBy Tryz.prog := yaJ noGo rfl
theorem oao : ([3].all fun u => !Tryz.prog.wantsStandIn u) = true := by kernel_rfl
theorem inquiryLong_card : Rows.InquiryLongCardSaid :=
  Claim7.holds_tied_plain_at .later [] [.data, .data, .data, .data, .sentinel, .sentinel, .pinned] true (true, "5fe4f2994bcfcb18a573ba9b76c2139879dc70faabe354a7a6f3c4e0ac6ce8ec") true Ask.ban (fun _ h => by cases h) caK (fun _ h => by cases h) taI rfl ⟨rfl, rfl⟩ vas rfl
    (fun f fn hf hfn => by
      obtain rfl : f = 3 := Option.some.inj ((show Tryz.prog.funcNamed "lagan/laganlaw09.InquiryLong" = some 3 from Ask.naf).symm.trans hf) |>.symm
      obtain rfl : fn = Tryz.f3 := (Option.some.inj (Tryz.func3.symm.trans hfn)).symm
      exact ⟨pao, fun j t ht => by
        rw [Tryz.params3] at ht
        have hm : t ∈ [3] := by simpa using Array.mem_of_getElem? ht
        exact (show Tryz.prog.wantsStandIn t = false by simpa using List.all_eq_true.1 oao t hm)⟩)
    xas
end Go.Proofs.YtcbeheaiblgpfaaGreatDoor
end
