/- The law InquiryLong: part Er. -/
import Derived.Test.YtcbeheaiblgpfaaGreatDoorQEn
import Derived.Test.YtcbeheaiblgpfaaGreatDoorQEo
import Derived.Test.YtcbeheaiblgpfaaGreatDoorQEp
import Derived.Test.YtcbeheaiblgpfaaGreatDoorQEq
import Derived.Test.YtcbeheaiblgpfaaGreatDoorQRa
import Derived.Test.YtcbeheaiblgpfaaGreatDoorQRb
import Derived.Test.YtcbeheaiblgpfaaGreatDoorQRc
import Derived.Test.YtcbeheaiblgpfaaGreatDoorQRd
import Derived.Test.YtcbeheaiblgpfaaGreatDoorQRe
import Derived.Test.YtcbeheaiblgpfaaGreatDoorQRf
import Derived.Test.YtcbeheaiblgpfaaGreatDoorQRg
import Derived.Test.YtcbeheaiblgpfaaGreatDoorQRh
import Derived.Test.YtcbeheaiblgpfaaGreatDoorQRi
set_option linter.unusedVariables false
set_option linter.unusedSimpArgs false
noncomputable section
namespace Go.Ev
set_option maxRecDepth 100000000
def e80 : Ent := ⟨4, [], [.none, .none, .none, some (.cells [.int .u64 (.ofNat 1), .int .u64 (.ofNat 10), .int .u64 (.ofNat 100), .int .u64 (.ofNat 1000), .int .u64 (.ofNat 10000), .int .u64 (.ofNat 100000), .int .u64 (.ofNat 1000000), .int .u64 (.ofNat 10000000), .int .u64 (.ofNat 100000000), .int .u64 (.ofNat 1000000000), .int .u64 (.ofNat 10000000000), .int .u64 (.ofNat 100000000000), .int .u64 (.ofNat 1000000000000), .int .u64 (.ofNat 10000000000000), .int .u64 (.ofNat 100000000000000), .int .u64 (.ofNat 1000000000000000), .int .u64 (.ofNat 10000000000000000), .int .u64 (.ofNat 100000000000000000), .int .u64 (.ofNat 1000000000000000000), .int .u64 (.ofNat 10000000000000000000)] 744 false true 0 0 false), .none, .none, .none, .none], .bool true, []⟩
theorem es80 : df E0.ng e80 = true := by decide +kernel
theorem er80 : ig E0 e80.f e80.args .normal [] (jg e80.hin) (goN ⟨E0, ah E0.ng T80, nk T80, kg e80⟩ 100000000) = true := by decide +kernel
end Go.Ev
end
noncomputable section
namespace Go.Ev
open Go.Proofs
theorem tb0 : aj Tryz.prog E0 ui T0 := .nil
theorem tb1 : aj Tryz.prog E0 ui T1 := .cons e0 T0 (mf.ok fe jf og (ug.wh jf ⟨es0, _, er0⟩)) tb0
theorem tb2 : aj Tryz.prog E0 ui T2 := .cons e1 T1 (mf.ok fe jf og (ug.wh jf ⟨es1, _, er1⟩)) tb1
theorem tb3 : aj Tryz.prog E0 ui T3 := .cons e2 T2 (mf.ok fe jf og (ug.wh jf ⟨es2, _, er2⟩)) tb2
theorem tb4 : aj Tryz.prog E0 ui T4 := .cons e3 T3 (mf.ok fe jf og (ug.wh jf ⟨es3, _, er3⟩)) tb3
theorem tb5 : aj Tryz.prog E0 ui T5 := .cons e4 T4 (mf.ok fe jf og (ug.wh jf ⟨es4, _, er4⟩)) tb4
theorem tb6 : aj Tryz.prog E0 ui T6 := .cons e5 T5 (mf.ok fe jf og (ug.wh jf ⟨es5, _, er5⟩)) tb5
theorem tb7 : aj Tryz.prog E0 ui T7 := .cons e6 T6 (mf.ok fe jf og (ug.wh jf ⟨es6, _, er6⟩)) tb6
theorem tb8 : aj Tryz.prog E0 ui T8 := .cons e7 T7 (mf.ok fe jf og (ug.wh jf ⟨es7, _, er7⟩)) tb7
theorem tb9 : aj Tryz.prog E0 ui T9 := .cons e8 T8 (mf.ok fe jf og (ug.wh jf ⟨es8, _, er8⟩)) tb8
theorem tb10 : aj Tryz.prog E0 ui T10 := .cons e9 T9 (mf.ok fe jf og (ug.wh jf ⟨es9, _, er9⟩)) tb9
theorem tb11 : aj Tryz.prog E0 ui T11 := .cons e10 T10 (mf.ok fe jf og (ug.wh jf ⟨es10, _, er10⟩)) tb10
theorem tb12 : aj Tryz.prog E0 ui T12 := .cons e11 T11 (mf.ok fe jf og (ug.wh jf ⟨es11, _, er11⟩)) tb11
theorem tb13 : aj Tryz.prog E0 ui T13 := .cons e12 T12 (mf.ok fe jf og (ug.wh jf ⟨es12, _, er12⟩)) tb12
theorem tb14 : aj Tryz.prog E0 ui T14 := .cons e13 T13 (mf.ok fe jf og (ug.wh jf ⟨es13, _, er13⟩)) tb13
theorem tb15 : aj Tryz.prog E0 ui T15 := .cons e14 T14 (mf.ok fe jf og (ug.wh jf ⟨es14, _, er14⟩)) tb14
theorem tb16 : aj Tryz.prog E0 ui T16 := .cons e15 T15 (mf.ok fe jf og (ug.wh jf ⟨es15, _, er15⟩)) tb15
theorem tb17 : aj Tryz.prog E0 ui T17 := .cons e16 T16 (mf.ok fe jf og (ug.wh jf ⟨es16, _, er16⟩)) tb16
theorem tb18 : aj Tryz.prog E0 ui T18 := .cons e17 T17 (mf.ok fe jf og (ug.wh jf ⟨es17, _, er17⟩)) tb17
theorem tb19 : aj Tryz.prog E0 ui T19 := .cons e18 T18 (mf.ok fe jf og (ug.wh jf ⟨es18, _, er18⟩)) tb18
theorem tb20 : aj Tryz.prog E0 ui T20 := .cons e19 T19 (mf.ok fe jf og (ug.wh jf ⟨es19, _, er19⟩)) tb19
theorem tb21 : aj Tryz.prog E0 ui T21 := .cons e20 T20 (mf.ok fe jf og (ug.wh jf ⟨es20, _, er20⟩)) tb20
theorem tb22 : aj Tryz.prog E0 ui T22 := .cons e21 T21 (mf.ok fe jf og (ug.wh jf ⟨es21, _, er21⟩)) tb21
theorem tb23 : aj Tryz.prog E0 ui T23 := .cons e22 T22 (mf.ok fe jf og (ug.wh jf ⟨es22, _, er22⟩)) tb22
theorem tb24 : aj Tryz.prog E0 ui T24 := .cons e23 T23 (mf.ok fe jf og (ug.wh jf ⟨es23, _, er23⟩)) tb23
theorem tb25 : aj Tryz.prog E0 ui T25 := .cons e24 T24 (mf.ok fe jf og (ug.wh jf ⟨es24, _, er24⟩)) tb24
theorem tb26 : aj Tryz.prog E0 ui T26 := .cons e25 T25 (mf.ok fe jf og (ug.wh jf ⟨es25, _, er25⟩)) tb25
theorem tb27 : aj Tryz.prog E0 ui T27 := .cons e26 T26 (mf.ok fe jf og (ug.wh jf ⟨es26, _, er26⟩)) tb26
theorem tb28 : aj Tryz.prog E0 ui T28 := .cons e27 T27 (mf.ok fe jf og (ug.wh jf ⟨es27, _, er27⟩)) tb27
theorem tb29 : aj Tryz.prog E0 ui T29 := .cons e28 T28 (mf.ok fe jf og (ug.wh jf ⟨es28, _, er28⟩)) tb28
theorem tb30 : aj Tryz.prog E0 ui T30 := .cons e29 T29 (mf.ok fe jf og (ug.wh jf ⟨es29, _, er29⟩)) tb29
theorem tb31 : aj Tryz.prog E0 ui T31 := .cons e30 T30 (mf.ok fe jf og (ug.wh jf ⟨es30, _, er30⟩)) tb30
theorem tb32 : aj Tryz.prog E0 ui T32 := .cons e31 T31 (mf.ok fe jf og (ug.wh jf ⟨es31, _, er31⟩)) tb31
theorem tb33 : aj Tryz.prog E0 ui T33 := .cons e32 T32 (mf.ok fe jf og (ug.wh jf ⟨es32, _, er32⟩)) tb32
theorem tb34 : aj Tryz.prog E0 ui T34 := .cons e33 T33 (mf.ok fe jf og (ug.wh jf ⟨es33, _, er33⟩)) tb33
theorem tb35 : aj Tryz.prog E0 ui T35 := .cons e34 T34 (mf.ok fe jf og (ug.wh jf ⟨es34, _, er34⟩)) tb34
theorem tb36 : aj Tryz.prog E0 ui T36 := .cons e35 T35 (mf.ok fe jf og (ug.wh jf ⟨es35, _, er35⟩)) tb35
theorem tb37 : aj Tryz.prog E0 ui T37 := .cons e36 T36 (mf.ok fe jf og (ug.wh jf ⟨es36, _, er36⟩)) tb36
theorem tb38 : aj Tryz.prog E0 ui T38 := .cons e37 T37 (mf.ok fe jf og (ug.wh jf ⟨es37, _, er37⟩)) tb37
theorem tb39 : aj Tryz.prog E0 ui T39 := .cons e38 T38 (mf.ok fe jf og (ug.wh jf ⟨es38, _, er38⟩)) tb38
theorem tb40 : aj Tryz.prog E0 ui T40 := .cons e39 T39 (mf.ok fe jf og (ug.wh jf ⟨es39, _, er39⟩)) tb39
theorem tb41 : aj Tryz.prog E0 ui T41 := .cons e40 T40 (mf.ok fe jf og (ug.wh jf ⟨es40, _, er40⟩)) tb40
theorem tb42 : aj Tryz.prog E0 ui T42 := .cons e41 T41 ok41 tb41
theorem tb43 : aj Tryz.prog E0 ui T43 := .cons e42 T42 (mf.ok fe jf og (yH es42 pc42)) tb42
theorem tb44 : aj Tryz.prog E0 ui T44 := .cons e43 T43 (mf.ok fe jf og (ug.wh jf ⟨es43, _, er43⟩)) tb43
theorem tb45 : aj Tryz.prog E0 ui T45 := .cons e44 T44 (mf.ok fe jf og (ug.wh jf ⟨es44, _, er44⟩)) tb44
theorem tb46 : aj Tryz.prog E0 ui T46 := .cons e45 T45 (mf.ok fe jf og (ug.wh jf ⟨es45, _, er45⟩)) tb45
theorem tb47 : aj Tryz.prog E0 ui T47 := .cons e46 T46 ok46 tb46
theorem tb48 : aj Tryz.prog E0 ui T48 := .cons e47 T47 (mf.ok fe jf og (yH es47 pc47)) tb47
theorem tb49 : aj Tryz.prog E0 ui T49 := .cons e48 T48 (mf.ok fe jf og (ug.wh jf ⟨es48, _, er48⟩)) tb48
theorem tb50 : aj Tryz.prog E0 ui T50 := .cons e49 T49 (mf.ok fe jf og (ug.wh jf ⟨es49, _, er49⟩)) tb49
theorem tb51 : aj Tryz.prog E0 ui T51 := .cons e50 T50 (mf.ok fe jf og (ug.wh jf ⟨es50, _, er50⟩)) tb50
theorem tb52 : aj Tryz.prog E0 ui T52 := .cons e51 T51 (mf.ok fe jf og (ug.wh jf ⟨es51, _, er51⟩)) tb51
theorem tb53 : aj Tryz.prog E0 ui T53 := .cons e52 T52 (mf.ok fe jf og (yH es52 pc52)) tb52
theorem tb54 : aj Tryz.prog E0 ui T54 := .cons e53 T53 (mf.ok fe jf og (ug.wh jf ⟨es53, _, er53⟩)) tb53
theorem tb55 : aj Tryz.prog E0 ui T55 := .cons e54 T54 (mf.ok fe jf og (ug.wh jf ⟨es54, _, er54⟩)) tb54
theorem tb56 : aj Tryz.prog E0 ui T56 := .cons e55 T55 (mf.ok fe jf og (ug.wh jf ⟨es55, _, er55⟩)) tb55
theorem tb57 : aj Tryz.prog E0 ui T57 := .cons e56 T56 (mf.ok fe jf og (ug.wh jf ⟨es56, _, er56⟩)) tb56
theorem tb58 : aj Tryz.prog E0 ui T58 := .cons e57 T57 (mf.ok fe jf og (ug.wh jf ⟨es57, _, er57⟩)) tb57
theorem tb59 : aj Tryz.prog E0 ui T59 := .cons e58 T58 (mf.ok fe jf og (ug.wh jf ⟨es58, _, er58⟩)) tb58
theorem tb60 : aj Tryz.prog E0 ui T60 := .cons e59 T59 (mf.ok fe jf og (ug.wh jf ⟨es59, _, er59⟩)) tb59
theorem tb61 : aj Tryz.prog E0 ui T61 := .cons e60 T60 (mf.ok fe jf og (yH es60 pc60)) tb60
theorem tb62 : aj Tryz.prog E0 ui T62 := .cons e61 T61 (mf.ok fe jf og (ug.wh jf ⟨es61, _, er61⟩)) tb61
theorem tb63 : aj Tryz.prog E0 ui T63 := .cons e62 T62 (mf.ok fe jf og (ug.wh jf ⟨es62, _, er62⟩)) tb62
theorem tb64 : aj Tryz.prog E0 ui T64 := .cons e63 T63 (mf.ok fe jf og (ug.wh jf ⟨es63, _, er63⟩)) tb63
theorem tb65 : aj Tryz.prog E0 ui T65 := .cons e64 T64 (mf.ok fe jf og (yH es64 pc64)) tb64
theorem tb66 : aj Tryz.prog E0 ui T66 := .cons e65 T65 (mf.ok fe jf og (ug.wh jf ⟨es65, _, er65⟩)) tb65
theorem tb67 : aj Tryz.prog E0 ui T67 := .cons e66 T66 (mf.ok fe jf og (ug.wh jf ⟨es66, _, er66⟩)) tb66
theorem tb68 : aj Tryz.prog E0 ui T68 := .cons e67 T67 (mf.ok fe jf og (ug.wh jf ⟨es67, _, er67⟩)) tb67
theorem tb69 : aj Tryz.prog E0 ui T69 := .cons e68 T68 (mf.ok fe jf og (ug.wh jf ⟨es68, _, er68⟩)) tb68
theorem tb70 : aj Tryz.prog E0 ui T70 := .cons e69 T69 (mf.ok fe jf og (yH es69 pc69)) tb69
theorem tb71 : aj Tryz.prog E0 ui T71 := .cons e70 T70 (mf.ok fe jf og (ug.wh jf ⟨es70, _, er70⟩)) tb70
theorem tb72 : aj Tryz.prog E0 ui T72 := .cons e71 T71 (mf.ok fe jf og (ug.wh jf ⟨es71, _, er71⟩)) tb71
theorem tb73 : aj Tryz.prog E0 ui T73 := .cons e72 T72 (mf.ok fe jf og (ug.wh jf ⟨es72, _, er72⟩)) tb72
theorem tb74 : aj Tryz.prog E0 ui T74 := .cons e73 T73 (mf.ok fe jf og (ug.wh jf ⟨es73, _, er73⟩)) tb73
theorem tb75 : aj Tryz.prog E0 ui T75 := .cons e74 T74 (mf.ok fe jf og (ug.wh jf ⟨es74, _, er74⟩)) tb74
theorem tb76 : aj Tryz.prog E0 ui T76 := .cons e75 T75 (mf.ok fe jf og (ug.wh jf ⟨es75, _, er75⟩)) tb75
theorem tb77 : aj Tryz.prog E0 ui T77 := .cons e76 T76 (mf.ok fe jf og (yH es76 pc76)) tb76
theorem tb78 : aj Tryz.prog E0 ui T78 := .cons e77 T77 (mf.ok fe jf og (ug.wh jf ⟨es77, _, er77⟩)) tb77
theorem tb79 : aj Tryz.prog E0 ui T79 := .cons e78 T78 (mf.ok fe jf og (ug.wh jf ⟨es78, _, er78⟩)) tb78
theorem tb80 : aj Tryz.prog E0 ui T80 := .cons e79 T79 (mf.ok fe jf og (ug.wh jf ⟨es79, _, er79⟩)) tb79
end Go.Ev
end
noncomputable section
namespace Go.Ev
open Go.Proofs
open Go.RowKit (Below)
def baa : Array Value := #[.int .u64 1, .int .u64 10, .int .u64 100, .int .u64 1000, .int .u64 10000, .int .u64 100000, .int .u64 1000000, .int .u64 10000000, .int .u64 100000000, .int .u64 1000000000, .int .u64 10000000000, .int .u64 100000000000, .int .u64 1000000000000, .int .u64 10000000000000, .int .u64 100000000000000, .int .u64 1000000000000000, .int .u64 10000000000000000, .int .u64 100000000000000000, .int .u64 1000000000000000000, .int .u64 10000000000000000000]
def mu0 : Mu := fun b => if b < 8 then some ⟨b, 0, true, 20, 20, false, nofun⟩ else none
theorem yO {b : Nat} {i : Info} (h : mu0 b = some i) : b < 8 ∧ i = ⟨b, 0, true, 20, 20, false, nofun⟩ := by
  unfold mu0 at h
  split at h
  · cases h; exact ⟨by assumption, rfl⟩
  · cases h
theorem glob0 : sG E0 mu0 := fun g hg => ⟨_, by unfold mu0; rw [if_pos (show g < 8 from hg)], rfl, rfl⟩
theorem pas {b : Nat} {o : Ob} (h : (jg e80.hin).get b = some o) : b = 3 ∧ bg e80.hin 3 = some (some o) := by
  rw [nN] at h
  have hb : b < 8 := by
    have : bg e80.hin b ≠ none := by intro e; rw [e] at h; cases h
    rw [zg, Ne, List.getElem?_eq_none_iff] at this
    have h8 : e80.hin.length = 8 := rfl
    omega
  have : b = 0 ∨ b = 1 ∨ b = 2 ∨ b = 3 ∨ b = 4 ∨ b = 5 ∨ b = 6 ∨ b = 7 := by omega
  rcases this with rfl | rfl | rfl | rfl | rfl | rfl | rfl | rfl
  all_goals first
    | (exfalso; cases h; done)
    | (refine ⟨rfl, ?_⟩
       cases hl : bg e80.hin 3 with
       | none => rw [hl] at h; cases h
       | some x => rw [hl] at h; cases x with
         | none => cases h
         | some y => cases h; rfl)
theorem wrel0 (w : World) (fr : Nat × Nat) (hp : w.heap[3]? = some (.cells baa 744 fr)) (h8 : 8 ≤ w.heap.size) : yg E0 w.heap.size w mu0 (jg e80.hin) w := by
  refine ⟨fun b i o hb ho => ?_, fun b b' i i' o o' _ hb _ _ _ _ _ hr => ?_, fun b i hb hr => ?_, fun b i hb => ?_, fun b hb => ?_, Below.refl _ _, Nat.le_refl _⟩
  · obtain ⟨_, rfl⟩ := yO hb
    obtain ⟨rfl, ho⟩ := pas ho
    refine ⟨_, hp, ?_⟩
    obtain ⟨lo, hi⟩ := fr
    cases ho
    refine .cells _ 744 false true 0 0 false baa lo hi rfl rfl (fun t ht => ?_) (by decide) ?_ (fun _ => ⟨rfl, rfl⟩) (fun h => by cases h)
    · rw [show E0.ty.get 744 = some caI from by kernel_rfl] at ht
      cases ht
      kernel_rfl
    · show ae mu0 _ [_, _, _, _, _, _, _, _, _, _, _, _, _, _, _, _, _, _, _, _]
      repeat (first | exact ae.nil | refine ae.cons _ _ _ _ (ze.int _ _) ?_)
  · obtain ⟨_, rfl⟩ := yO hb
    cases hr
  · obtain ⟨_, rfl⟩ := yO hb
    cases hr
  · obtain ⟨h, rfl⟩ := yO hb
    show b < _
    omega
  · rw [aK] at hb
    have hb : 8 ≤ b := hb
    refine ⟨?_, by unfold mu0; rw [if_neg (by omega)]⟩
    cases hx : (jg e80.hin).get b with
    | none => rfl
    | some o => have := (pas hx).1; omega
theorem xaf (w : World) (m : Int) (fr : Nat × Nat) (hm : w.cell? ⟨0, 0, none⟩ = some (.int .i64 m)) (hp : w.heap[3]? = some (.cells baa 744 fr)) (h8 : 8 ≤ w.heap.size) :
    Calls Tryz.prog 4 #[] w fun e w' => e = .returned (.bool true) ∧ Below w.heap.size w w' := by
  have hW : ui w.heap.size w := ⟨by omega, Nat.le_refl _, m, hm⟩
  have := o6 (pK E0.ng T80) jf og (nau tb80 _ _ hW) glob0 (wrel0 w fr hp h8) (rargs := #[]) (f := 4) (args := []) .nil er80 (fun f v h' hg => (yR es80 f v h' hg).1)
  intro CS
  obtain ⟨en, w', f', ⟨v, h', hg, μ', rv, rfl, _, hw, hv⟩, h5⟩ := this CS
  refine ⟨_, w', f', ⟨?_, hw.below⟩, h5⟩
  obtain ⟨_, g, U⟩ := yR es80 _ v h' hg
  have h1 := U.out
  have h2 : v = .bool true := by rw [← h1]; rfl
  subst h2
  cases hv
  rfl
end Go.Ev
end
