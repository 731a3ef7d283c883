/- The law InquiryLong: part Ep. -/
import Derived.Test.YtcbeheaiblgpfaaGreatDoorQEl
import Derived.Test.YtcbeheaiblgpfaaGreatDoorQEm
import Derived.Test.YtcbeheaiblgpfaaGreatDoorQEn
import Derived.Test.YtcbeheaiblgpfaaGreatDoorQEo
set_option linter.unusedVariables false
set_option linter.unusedSimpArgs false
noncomputable section
namespace Go.Ev
open Go.RowKit (Below)
open Go.Proofs
def ui : Nat → World → Prop := fun base w0 => 0 < base ∧ base ≤ w0.heap.size ∧ ∃ m : Int, w0.cell? ⟨0, 0, none⟩ = some (.int .i64 m)
theorem fe : Kept ui := fun base w0 w ⟨h1, _, m, h3⟩ hb hs => ⟨by omega, Nat.le_refl _, m, by rw [hb.cell h1]; exact h3⟩
theorem vaa {a : ByteArray} {s : List Nat} (h : gB a = s) : a.data.toList = s.map UInt8.ofNat := by
 rw [← h, gB, List.map_map]
 have : UInt8.ofNat ∘ UInt8.toNat = id := by funext x; simp
 rw [this, List.map_id]
theorem wax {es : List Ent} {e : Ent} (hs : df E0.ng e = true) (hf : e.f = 225) {s t : List Nat} {n : Int} (ha : e.args = [.str s, .str t]) (ho : e.hout = []) (hv : e.out = .int .i64 n) (hl : Nat.blt s.length 1000 = true)
  (hi : Lib.index (s.map UInt8.ofNat) (t.map UInt8.ofNat) = n) : kU Tryz.prog E0 ui es e := by
 refine kU.pure hs ho hv ha fun base w0 w a b ⟨h1, _, m, h3⟩ hb _ ea eb => ?_
 rw [au, decide_eq_true_eq] at hl
 have := Go.Proofs.Tryz.stringslite_Index a b m w (by rw [← qp ea]; omega) (by rw [hb.cell h1]; exact h3)
 rw [vaa ea, vaa eb, hi] at this
 rw [hf]
 exact this
theorem es41 : df E0.ng e41 = true := by decide +kernel
theorem es46 : df E0.ng e46 = true := by decide +kernel
theorem ok41 : kU Tryz.prog E0 ui T41 e41 := wax es41 rfl rfl rfl rfl rfl (by decide +kernel)
theorem ok46 : kU Tryz.prog E0 ui T46 e46 := wax es46 rfl rfl rfl rfl rfl (by decide +kernel)
end Go.Ev
end
noncomputable section
namespace Go.Ev
open Go.Proofs
theorem haI : ∃ fn g, jU Tryz.prog E0 137 3 0 fn g := ⟨Tryz.f137, Extern.AbiNoEscape.same, ⟨Tryz.func137, by kernel_rfl, rfl, by kernel_rfl, by kernel_rfl, (fun h => by cases h), (fun h => by cases h), (fun _ => rfl), (fun h => by cases h), (fun h => by cases h)⟩⟩
theorem gaI : ∃ fn g, jU Tryz.prog E0 224 2 0 fn g := ⟨Tryz.f224, Extern.BytealgCount.count, ⟨Tryz.func224, by kernel_rfl, rfl, by kernel_rfl, by kernel_rfl, (fun h => by cases h), (fun _ => rfl), (fun h => by cases h), (fun h => by cases h), (fun h => by cases h)⟩⟩
theorem eaI : ∃ fn g, jU Tryz.prog E0 392 5 0 fn g := ⟨Tryz.f392, Extern.BytealgIndex.index, ⟨Tryz.func392, by kernel_rfl, rfl, by kernel_rfl, by kernel_rfl, (fun h => by cases h), (fun h => by cases h), (fun h => by cases h), (fun h => by cases h), (fun _ => ⟨rfl, by decide, by kernel_rfl⟩)⟩⟩
theorem daI : ∃ fn g, jU Tryz.prog E0 552 1 0 fn g := ⟨Tryz.f552, Extern.BytealgIndexByte.indexByte, ⟨Tryz.func552, by kernel_rfl, rfl, by kernel_rfl, by kernel_rfl, (fun _ => rfl), (fun h => by cases h), (fun h => by cases h), (fun h => by cases h), (fun h => by cases h)⟩⟩
theorem faI : ∃ fn g, jU Tryz.prog E0 238 4 5 fn g := ⟨Tryz.f238, (Extern.BytealgMakeNoZero.makeNoZero Tryz.f238.params Tryz.f238.resultTypes), ⟨Tryz.func238, by kernel_rfl, rfl, by kernel_rfl, by kernel_rfl, (fun h => by cases h), (fun h => by cases h), (fun h => by cases h), (fun _ => ⟨_, 96, rfl, Tryz.underlying96, fun ti h => by rw [show E0.ty.get 5 = some y5 from by kernel_rfl] at h; cases h; rfl⟩), (fun h => by cases h)⟩⟩
theorem oas : eExt.All (fun i p => ∃ fn g, jU Tryz.prog E0 i p.1 p.2 fn g) := ⟨bq, ⟨bq, trivial, ⟨bq, ⟨bq, trivial, ⟨bq, ⟨bq, ⟨bq, ⟨zb haI, trivial, trivial⟩, trivial⟩, trivial⟩, trivial⟩⟩, trivial⟩⟩, ⟨bq, ⟨bq, ⟨bq, ⟨bq, ⟨bq, trivial, ⟨bq, trivial, ⟨zb gaI, trivial, trivial⟩⟩⟩, trivial⟩, ⟨bq, ⟨bq, ⟨bq, ⟨bq, trivial, ⟨zb eaI, trivial, trivial⟩⟩, trivial⟩, ⟨bq, ⟨bq, ⟨bq, ⟨zb daI, trivial, trivial⟩, trivial⟩, trivial⟩, trivial⟩⟩, trivial⟩⟩, trivial⟩, ⟨bq, trivial, ⟨bq, trivial, ⟨bq, ⟨bq, trivial, ⟨bq, trivial, ⟨zb faI, trivial, trivial⟩⟩⟩, trivial⟩⟩⟩⟩⟩
theorem og : jF Tryz.prog E0 := fun _ _ _ h => oas.get h
end Go.Ev
end
