/- The law InquiryLong: part Ac. -/
import Derived.Defers
import Derived.Recover
import Derived.Laws.Pointers
import Derived.Test.YtcbeheaiblgpfaaGreatDoorQAb
set_option linter.unusedVariables false
set_option linter.unusedSimpArgs false
noncomputable section
namespace Go.Proofs.YtcbeheaiblgpfaaGreatDoor.Ask
open Go.RowKit Go.Proofs.YtcbeheaiblgpfaaGreatDoorW.PrintWords Go.Proofs.YtcbeheaiblgpfaaGreatDoorW.PrintLast Go.Proofs.YtcbeheaiblgpfaaGreatDoorW.PrintMore
theorem info3 : (Tryz.prog.info? 3).map (fun i => (i.zero, i.size, i.bytes)) = some (some (.int .i64 0), 1, 8) := by kernel_rfl
def ak (xs : List (List Int)) (i : Int) : (List Int) := xs.getD i.toNat ([] : List Int)
theorem iM {w : World} {A : Option Addr} {n : Nat} {xs : List (List Int)} (h : Kd.C (Kd.slice 3 (Kd.int .i64)) w A n xs) (i : Int) (h0 : 0 ≤ i) (h1 : i < n) : ∃ ad A0 c0, A = some ad ∧ w.cell? (ad.add i.toNat) = some (.slice A0 (ak xs i).length c0) ∧ (ak xs i).length ≤ c0 ∧ (Kd.int .i64).C w A0 (ak xs i).length (ak xs i) := by
 obtain ⟨ad, c, e, _, hK, hc0⟩ := Kd.C_get h ([] : List Int) i h0 h1
 have hc : ∀ j u, c[j]? = some u → w.cell? (ad.add (i.toNat * 1 + j)) = some u := hc0
 obtain ⟨A0, c0, rfl, l0, g0⟩ := hK
 exact ⟨ad, A0, c0, e, by have hq := hc 0 _ rfl; rwa [Nat.mul_one, Nat.add_zero] at hq, l0, g0⟩
def strings_Split.f (a0 a1 : ByteArray) : Option (List ByteArray) := if a0.size < 4294967281 then (if 1 ≤ a1.size then some (Lib.splitB a1 0 (Lib.countB a0 a1) a0) else none) else none
theorem strings_Split.calls (a0 a1 : ByteArray) (r : List ByteArray) (w : World) (G : Gl w) (h : strings_Split.f a0 a1 = some r) :
  Calls Tryz.prog 36 #[.string a0, .string a1] w fun e w' => ∃ v0_ : Value, e = .returned (v0_) ∧ Kd.R Kd.string 9 w' w.heap.size (fun _ => True) v0_ r ∧ Below w.heap.size w w' := by
 unfold strings_Split.f at h
 by_cases h1 : a0.size < 4294967281
 ·rw [if_pos h1] at h
  by_cases h2 : 1 ≤ a1.size
  ·rw [if_pos h2] at h
   obtain rfl := Option.some.inj h
   obtain ⟨m, hm⟩ := G.max
   refine (Tryz.strings_Split a0 a1 m w h1 hm h2).mono ?_
   rintro e w' ⟨rfl, rfl⟩
   have hl := Lib.splitB_all a1 h2 0 (Lib.countB a0 a1) a0 rfl
   have hc := Lib.countB_le a1 h2 a0.size a0 (Nat.le_refl _)
   generalize Lib.splitB a1 0 (Lib.countB a0 a1) a0 = ws at hl ⊢
   generalize Lib.countB a0 a1 = n at hl hc ⊢
   refine ⟨_, rfl, ⟨fun _ _ => trivial, ws.map Value.string, ?_, ?_⟩, za (Below.refl _ _) _⟩
   ·have := World.ownsRow_lit (base := w.heap.size) (e := 9) (size := 1) w ((ws.map Value.string).toArray) (n + 1) (Nat.le_refl _) (by unfold maxLen; omega) (by simp [hl])
    rw [show Kd.string.sz = 1 from rfl, hl]
    simpa using this
   ·refine ⟨by rw [show Kd.string.sz = 1 from rfl, Nat.mul_one, List.length_map], fun j p hj => ?_⟩
    show ((ws.map Value.string).drop (j * 1)).take 1 = [Value.string p]
    rw [Nat.mul_one, List.drop_eq_getElem_cons (by rw [List.length_map]; exact (List.getElem?_eq_some_iff.1 hj).1), List.take_succ_cons, List.take_zero, List.getElem_map]
    rw [(List.getElem?_eq_some_iff.1 hj).2]
  ·rw [if_neg h2] at h; cases h
 ·rw [if_neg h1] at h; cases h
def dar (s : ByteArray) : Option Int := match Lib.atoi s.data.toList with
 | some n => if um n = true then (if s.data.toList = Lib.itoa n then some n else none) else none
 | none => none
theorem cav {s : ByteArray} {n : Int} (h : dar s = some n) : Num n ∧ s = ⟨(Lib.itoa n).toArray⟩ := by
 unfold dar at h
 cases ha : Lib.atoi s.data.toList with
 | none => rw [ha] at h; cases h
 | some m =>
  rw [ha] at h
  simp only at h
  by_cases h1 : um m = true
  ·rw [if_pos h1] at h
   by_cases h2 : s.data.toList = Lib.itoa m
   ·rw [if_pos h2] at h
    obtain rfl := Option.some.inj h
    refine ⟨iA h1, ?_⟩
    rw [← h2]
   ·rw [if_neg h2] at h; cases h
  ·rw [if_neg h1] at h; cases h
def zn.f (a0 : ByteArray) (a1 : Int) : Option Int := if a1 = 13 then dar a0 else none
theorem zn.calls (a0 : ByteArray) (a1 : Int) (r : Int) (w : World) (G : Gl w) (h : zn.f a0 a1 = some r) :
  Calls Tryz.prog 37 #[.string a0, .int .i64 a1] w fun e w' => e = .returned (.int .i64 r) ∧ Below w.heap.size w w' := by
 unfold zn.f at h
 by_cases h1 : a1 = 13
 ·rw [if_pos h1] at h
  obtain ⟨h2, h3⟩ := cav h
  subst h1
  subst h3
  exact wZ r w G h2
 ·rw [if_neg h1] at h; cases h
def pg.l0 : Nat → List ByteArray → Int → Int → List Int → List (List Int) → Option (List Int × (List (List Int)) × Int)
 | 0, _, _, _, _, _ => none
 | k + 1, x9, x10, x11, x106000, x106001 => if x11 < x10 then (if 0 ≤ x11 then (if x11 < (x9.length : Int) then (if (sM ByteArray.empty x9 x11).toList = ([124] : List UInt8) then (if x106001.length < 5864062014805 then (pg.l0 k x9 x10 (wrap64 (x11 + 1)) x106000 (x106001 ++ [[]])) else (none)) else ((zn.f (sM ByteArray.empty x9 x11) 13).bind fun t116 => (if (x106001.length : Int) > 0 then (if 0 ≤ (wrap64 ((x106001.length : Int) - 1)) then (if (wrap64 ((x106001.length : Int) - 1)) < (x106001.length : Int) then (if (ak x106001 (wrap64 ((x106001.length : Int) - 1))).length < 17592186044416 then (pg.l0 k x9 x10 (wrap64 (x11 + 1)) x106000 (x106001.set ((wrap64 ((x106001.length : Int) - 1)) : Int).toNat ((ak x106001 (wrap64 ((x106001.length : Int) - 1))) ++ [t116]))) else (none)) else (none)) else (none)) else (if x106000.length < 17592186044416 then (pg.l0 k x9 x10 (wrap64 (x11 + 1)) (x106000 ++ [t116]) x106001) else (none))))) else (none)) else (none)) else (some (x106000, x106001, 0))
def pg.f (k : Nat) (a0 : ByteArray) : Option (List Int × (List (List Int)) × Int) := (strings_Split.f a0 (⟨#[32]⟩ : ByteArray)).bind fun t109 => (pg.l0 k t109 (t109.length : Int) 0 ([] : List Int) ([] : List (List Int)))
def pg.T9 : Bool × List (List Nat × List Nat) := (true, [([], []), ([0], [0]), ([], []), ([2], [2]), ([], []), ([4], [4]), ([], []), ([6], [6]), ([5, 7], [5, 7]), ([8], [8]), ([], []), ([10], [10]), ([9, 11], [9, 11]), ([1, 3, 0, 1, 2, 3, 4, 5, 6, 7, 8, 9, 10, 11, 12], [1, 3]), ([13, 12, 12, 0, 1, 2, 3, 4, 5, 6, 7, 8, 9, 10, 11, 12], [12, 13])])
def pg.B9 : List Nat := [0, 1, 0, 4, 0, 16, 0, 64, 240, 496, 0, 1024, 4080, 8191, 16383]
theorem pg.tab9 : dG .any (opsOf Tryz.f35 9) = pg.T9 := by kernel_rfl
theorem pg.bits9 : xN pg.T9.2 pg.B9 = true := by kernel_rfl
set_option maxHeartbeats 8000000 in
set_option maxRecDepth 100000 in
theorem pg.calls (k : Nat) (a0 : ByteArray) (gb105 gb106 gb107 gb108 : Nat) (r1 : List Int) (r2 : List (List Int)) (r3 : Int) (w w1 : World) (G : Gl w) (hne : ¬ a0.toList = []) (BK : w1.heap[gb105]? = some (.cells #[.slice none 0 0, .slice none 0 0] 26 (0, 0))) (GE : w.heap.size ≤ gb105) (BK6 : w1.heap[gb106]? = some (.cells #[.bool false] 4 (0, 0))) (GE6 : w.heap.size ≤ gb106) (BK7 : w1.heap[gb107]? = some (.cells #[.slice none 0 0, .slice none 0 0] 26 (0, 0))) (GE7 : w.heap.size ≤ gb107)
  (BK8 : w1.heap[gb108]? = some (.cells #[.string a0] 9 (0, 0))) (GE8 : w.heap.size ≤ gb108) (N56 : gb105 ≠ gb106) (N57 : gb105 ≠ gb107) (N58 : gb105 ≠ gb108) (N67 : gb106 ≠ gb107) (N68 : gb106 ≠ gb108) (N78 : gb107 ≠ gb108) (hB1 : Below w.heap.size w w1) (h : pg.f k a0 = some (r1, r2, r3)) :
  Calls Tryz.prog 35 #[.pointer (some ⟨gb108, 0, none⟩), .pointer (some ⟨gb105, 0, none⟩)] w1 fun e w' => e = .returned (.tuple #[]) ∧ ∃ v0_ v1_ : Value, w'.heap[gb105]? = some (.cells #[v0_, v1_] 26 (0, 0)) ∧ w'.heap[gb106]? = some (.cells #[.bool false] 4 (0, 0)) ∧ w'.heap[gb107]? = some (.cells #[.slice none 0 0, .slice none 0 0] 26 (0, 0)) ∧ w'.heap[gb108]? = some (.cells #[.string a0] 9 (0, 0)) ∧ Kd.R (Kd.int .i64) 3 w' w.heap.size (fun _ => True) v0_ r1 ∧ Kd.S (Kd.slice 3 (Kd.int .i64)) 23 w' w.heap.size (fun k_ => some k_ ≠ (v0_ : Value).ownBlock) v1_ r2 ∧ Below w.heap.size w w' := by
 have HG := aa.mk G
 have HB := aa.mk hB1
 have BK105 := aa.mk BK
 have GE105 := aa.mk GE
 have BK106 := aa.mk BK6
 have GE106 := aa.mk GE6
 have hs : w1.cell? ⟨gb108, 0, none⟩ = some (.string a0) := (qd BK8 0).trans rfl
 have BK107 := aa.mk BK7
 have GE107 := aa.mk GE7
 have BK108 := aa.mk BK8
 have GE108 := aa.mk GE8
 have NB105_106 := aa.mk N56
 have NB106_105 := aa.mk (Ne.symm N56)
 have NB105_107 := aa.mk N57
 have NB107_105 := aa.mk (Ne.symm N57)
 have NB105_108 := aa.mk N58
 have NB108_105 := aa.mk (Ne.symm N58)
 have NB106_107 := aa.mk N67
 have NB107_106 := aa.mk (Ne.symm N67)
 have NB106_108 := aa.mk N68
 have NB108_106 := aa.mk (Ne.symm N68)
 have NB107_108 := aa.mk N78
 have NB108_107 := aa.mk (Ne.symm N78)
 clear G hB1 BK GE BK6 GE6 BK7 GE7 BK8 GE8 N56 N57 N58 N67 N68 N78
 have hs0 : (a0.toList == ([] : List UInt8)) = false := by simpa using hne
 have H : ((strings_Split.f a0 (⟨#[32]⟩ : ByteArray)).bind fun t109 => (pg.l0 k t109 (t109.length : Int) 0 ([] : List Int) ([] : List (List Int)))) = some (r1, r2, r3) := h
 clear h
 replace H := Option.bind_eq_some_iff.mp H
 obtain ⟨t109, A20, H⟩ := H
 replace H : (pg.l0 k t109 (t109.length : Int) 0 ([] : List Int) ([] : List (List Int))) = some (r1, r2, r3) := H
 have A2 := aa.mk A20
 clear A20
 have H' := aa.mk H
 clear H
 go_enter Tryz.func35, Tryz.ntmps35
 go_wp2_with (first | ((with_reducible refine lh (f := 36) rfl ?_); refine oo (some 9) rfl rfl Tryz.func36 (by kernel_rfl) rfl #[.string a0, .string (⟨#[32]⟩ : ByteArray)] rfl (by (try simp only [List.map_toArray, List.map_cons, List.map_nil]); first | done | rfl | (simp only [List.length_drop, List.length_take]; rfl)) ?_; (with_reducible refine (strings_Split.calls a0 (⟨#[32]⟩ : ByteArray) t109 _ (HG.out.below (by repeat (first | (with_reducible first | exact HB.out | apply za | apply ma | apply ib | refine jb ?_ GE105.out | refine jb ?_ GE106.out | refine jb ?_ GE107.out | refine jb ?_ GE108.out) | exact HB.out))) A2.out).mono ?_); rintro e w7 ⟨v110, rfl, ho0, hb⟩; refine ⟨_, rfl, ?_⟩; have n0_ := aa.mk (Kd.rC ho0 (qf (by repeat (first | (with_reducible first | exact HB.out | apply za | apply ma | apply ib | refine jb ?_ GE105.out | refine jb ?_ GE106.out | refine jb ?_ GE107.out | refine jb ?_ GE108.out) | exact HB.out)))); have n1_ := aa.mk (lg (g := gb105) (o := .cells #[.slice none 0 0, .slice none 0 0] 26 (0, 0)) (by (with_reducible repeat (first | refine jc ?_ _ | refine qc ?_ | refine ic ?_ _)); exact BK105.out) hb); have n2_ := aa.mk (lg (g := gb106) (o := .cells #[.bool false] 4 (0, 0)) (by (with_reducible repeat (first | refine jc ?_ _ | refine qc ?_ | refine ic ?_ _)); exact BK106.out) hb); have n3_ := aa.mk (lg (g := gb107) (o := .cells #[.slice none 0 0, .slice none 0 0] 26 (0, 0)) (by (with_reducible repeat (first | refine jc ?_ _ | refine qc ?_ | refine ic ?_ _)); exact BK107.out) hb); have n4_ := aa.mk (lg (g := gb108) (o := .cells #[.string a0] 9 (0, 0)) (by (with_reducible repeat (first | refine jc ?_ _ | refine qc ?_ | refine ic ?_ _)); exact BK108.out) hb); have n5_ := aa.mk (yf (by repeat (first | (with_reducible first | exact HB.out | apply za | apply ma | apply ib | refine jb ?_ GE105.out | refine jb ?_ GE106.out | refine jb ?_ GE107.out | refine jb ?_ GE108.out) | exact HB.out)) hb); clear BK105; clear BK106; clear BK107; clear BK108; clear HB; have HO111 := n0_; have BK105 := n1_; have BK106 := n2_; have BK107 := n3_; have BK108 := n4_; have HB := n5_; clear n0_ n1_ n2_ n3_ n4_ n5_; (try clear hb); (try clear hb2); (try clear hk); (try clear hi); (try clear ho0); obtain ⟨Ao8, co8, eo8⟩ := Kd.ay HO111.out; subst eo8))
 go_loopg [11] k (fun kq v11 w' => ∃ (x11_1 : Int) (x106000_1 : List Int) (x106001_1 : List (List Int)) (u106000 : Value) (u106001 : Value), v11 = .int .i64 x11_1 ∧ aa (pg.l0 kq t109 (t109.length : Int) x11_1 x106000_1 x106001_1 = some (r1, r2, r3)) ∧ aa (kq ≤ k) ∧ aa (Kd.R Kd.string 9 w' w.heap.size (fun _ => True) (.slice Ao8 t109.length co8) t109) ∧ aa (Kd.R (Kd.int .i64) 3 w' w.heap.size (fun _ => True) u106000 x106000_1) ∧ aa (Kd.S (Kd.slice 3 (Kd.int .i64)) 23 w' w.heap.size (fun k_ => some k_ ≠ (u106000 : Value).ownBlock) u106001 x106001_1) ∧ aa (w'.heap[gb105]? = some (.cells #[u106000, u106001] 26 (0, 0))) ∧ aa (w'.heap[gb106]? = some (.cells #[.bool false] 4 (0, 0))) ∧ aa (w'.heap[gb107]? = some (.cells #[(.slice none 0 0), (.slice none 0 0)] 26 (0, 0))) ∧ aa (w'.heap[gb108]? = some (.cells #[.string a0] 9 (0, 0))) ∧ aa (Below w.heap.size w w'))
 case atStart => exact ⟨(0), (([] : List Int)), (([] : List (List Int))), (.slice none 0 0), (.slice none 0 0), (by first | rfl | (simp; done) | (simp [*]; done)), H', ⟨Nat.le_refl _⟩, ⟨by (with_reducible repeat (first | apply Kd.R_alloc | apply Kd.R_drewN | apply Kd.mg)); exact HO111.out⟩, ⟨by first | exact Kd.pQ _ _ _ _ _ | exact Kd.N_nil _ _ _ _ _ | exact Kd.V_nil _ _ _ _ _ | exact Kd.Q_nil _ _ _ _ _ | exact Kd.eab _ _ _ _ _⟩, ⟨by first | exact Kd.eab _ _ _ _ _ | exact Kd.N_nil _ _ _ _ _ | exact Kd.V_nil _ _ _ _ _ | exact Kd.Q_nil _ _ _ _ _ | exact Kd.pQ _ _ _ _ _⟩, ⟨by (with_reducible repeat (first | refine jc ?_ _ | refine qc ?_ | refine ic ?_ _)); exact BK105.out⟩, ⟨by (with_reducible repeat (first | refine jc ?_ _ | refine qc ?_ | refine ic ?_ _)); exact BK106.out⟩, ⟨by (with_reducible repeat (first | refine jc ?_ _ | refine qc ?_ | refine ic ?_ _)); exact BK107.out⟩, ⟨by (with_reducible repeat (first | refine jc ?_ _ | refine qc ?_ | refine ic ?_ _)); exact BK108.out⟩, ⟨by repeat (first | (with_reducible first | exact HB.out | apply za | apply ma | apply ib | refine jb ?_ GE105.out | refine jb ?_ GE106.out | refine jb ?_ GE107.out | refine jb ?_ GE108.out) | exact HB.out)⟩⟩
 case round =>
  clear H'
  clear hs hs0 hne
  obtain ⟨x11_1, x106000_1, x106001_1, u106000, u106001, rfl, HA, HK1, HO_9, HO_106000, HO_106001, BK105, BK106, BK107, BK108, HB⟩ := hrel
  cases gk with
  | zero => exact absurd HA.out (by simp [pg.l0])
  | succ k1 =>
   have H := HA.out
   clear HA
   simp only [pg.l0] at H
   by_cases c9 : x11_1 < (t109.length : Int)
   ·rw [if_pos c9] at H
    have c9b0 : decide (x11_1 < (t109.length : Int)) = true := decide_eq_true c9
    clear c9
    by_cases c10 : 0 ≤ x11_1
    ·rw [if_pos c10] at H
     have c10b0 : decide (0 ≤ x11_1) = true := decide_eq_true c10
     clear c10
     by_cases c11 : x11_1 < (t109.length : Int)
     ·rw [if_pos c11] at H
      have c11b0 : decide (x11_1 < (t109.length : Int)) = true := decide_eq_true c11
      clear c11
      by_cases c12 : (sM ByteArray.empty t109 x11_1).toList = ([124] : List UInt8)
      ·rw [if_pos c12] at H
       have c12b0 : ((sM ByteArray.empty t109 x11_1).toList == ([124] : List UInt8)) = true := beq_iff_eq.mpr c12
       have c12b1 : ((sM ByteArray.empty t109 x11_1).toList != ([124] : List UInt8)) = false := bne_eq_false_iff_eq.mpr c12
       clear c12
       by_cases c13 : x106001_1.length < 5864062014805
       ·rw [if_pos c13] at H
        have LMc13 := aa.mk c13
        clear c13
        obtain ⟨y113, hy113⟩ : ∃ y_ : List (List Int), y_ = (x106001_1 ++ [[]]) := ⟨_, rfl⟩
        replace H : (pg.l0 k1 t109 (t109.length : Int) (wrap64 (x11_1 + 1)) x106000_1 y113) = some (r1, r2, r3) := by first | (rw [hy113]; with_reducible exact H) | (have H2_ := (Option.bind_some _ _).symm.trans H; rw [hy113]; with_reducible exact H2_) | (have H2_ := (Option.bind_some _ _).symm.trans H; with_reducible exact H2_) | with_reducible exact H | (rw [hy113]; exact H) | exact H
        have Ny113 := aa.mk hy113
        clear hy113
        have H' := aa.mk H
        clear H
        have p112 : 0 ≤ (x11_1 : Int) := of_decide_eq_true (by first | (with_reducible assumption) | assumption)
        have q112 : x11_1 < (t109.length : Int) := of_decide_eq_true (by first | (with_reducible assumption) | assumption)
        obtain ⟨ad112, e112, hx112_0⟩ := Kd.uS (Kd.jl HO_9.out).2.2 x11_1 p112 q112
        cases e112
        replace p112 := eq_true p112
        replace q112 := eq_true q112
        have hnb14 := NB105_106.out
        have hnc14 := NB106_105.out
        have hnb15 := NB105_107.out
        have hnc15 := NB107_105.out
        have hnb16 := NB105_108.out
        have hnc16 := NB108_105.out
        have hcz17_0 : wr.cell? ⟨gb105, 0, none⟩ = some (u106000) := (qd BK105.out 0).trans rfl
        have hcz17_1 : wr.cell? ⟨gb105, 1, none⟩ = some (u106001) := (qd BK105.out 1).trans rfl
        have hfz17_0 := yc BK105.out 0
        have hfz17_1 := yc BK105.out 1
        go_wp2_with (first | ((with_reducible refine dB (b := .append) (xs := #[.tmp 18, .tmp 19]) rfl ?_); at_builtin; refine Kd.wC (Kd.slice 3 (Kd.int .i64)) (w0 := w) w.heap.size rfl (.tmp 18) (.tmp 19) 24 23 (.slice none 0 0) 24 rfl Tryz.underlying24 oac rfl (by decide) (by omega) u106001 x106001_1 [] [.slice none 0 0] (fun k_ => some k_ ≠ (u106000 : Value).ownBlock) (fun _ => False) rfl rfl ?aP (fun _ hk => hk.elim) ?aF ?aO ?aB ?aS ?aL ?_; (case aP => first | exact rfl | exact ⟨_, rfl, Kd.pQ _ _ _ _ _⟩); (case aB => exact (by repeat (first | (with_reducible first | exact HB.out | apply za | apply ma | apply ib | refine jb ?_ GE105.out | refine jb ?_ GE106.out | refine jb ?_ GE107.out | refine jb ?_ GE108.out) | exact HB.out))); (case aF => exact (fun k_ hk => Kd.fresh' (Kd.wN (by (with_reducible repeat (first | apply Kd.R_alloc | apply Kd.R_drewN | apply Kd.mg)); exact HO_106000.out)) k_ hk)); (case aO => exact (by (with_reducible repeat (first | apply Kd.S_alloc | apply Kd.S_drewN | apply Kd.qh)); exact Kd.xn HO_106001.out (fun k_ hk => ⟨hk, fun e_ => e_⟩))); (case aS => exact (qf (by repeat (first | (with_reducible first | exact HB.out | apply za | apply ma | apply ib | refine jb ?_ GE105.out | refine jb ?_ GE106.out | refine jb ?_ GE107.out | refine jb ?_ GE108.out) | exact HB.out)))); (case aL => have := LMc13.out; omega); intro v114 w18 ho hb hg hat; rw [← Ny113.out] at ho; have n0_ := aa.mk (Kd.oQ (by (with_reducible repeat (first | apply Kd.R_alloc | apply Kd.R_drewN | apply Kd.mg)); exact HO_9.out) (Kd.lQ (by (with_reducible repeat (first | apply Kd.S_alloc | apply Kd.S_drewN | apply Kd.qh)); exact HO_106001.out)) (by decide) hg); have n1_ := aa.mk (Kd.oQ (by (with_reducible repeat (first | apply Kd.R_alloc | apply Kd.R_drewN | apply Kd.mg)); exact HO_106000.out) (Kd.lQ (by (with_reducible repeat (first | apply Kd.S_alloc | apply Kd.S_drewN | apply Kd.qh)); exact HO_106001.out)) (by decide) hg); have n2_ := aa.mk (vo (g := gb105) (o := .cells #[u106000, u106001] 26 (0, 0)) (by (with_reducible repeat (first | refine jc ?_ _ | refine qc ?_ | refine ic ?_ _)); exact BK105.out) hg (Kd.zat HO_106001.out BK105.out (by decide))); have n3_ := aa.mk (vo (g := gb106) (o := .cells #[.bool false] 4 (0, 0)) (by (with_reducible repeat (first | refine jc ?_ _ | refine qc ?_ | refine ic ?_ _)); exact BK106.out) hg (Kd.zat HO_106001.out BK106.out (by decide))); have n4_ := aa.mk (vo (g := gb107) (o := .cells #[.slice none 0 0, .slice none 0 0] 26 (0, 0)) (by (with_reducible repeat (first | refine jc ?_ _ | refine qc ?_ | refine ic ?_ _)); exact BK107.out) hg (Kd.zat HO_106001.out BK107.out (by decide))); have n5_ := aa.mk (vo (g := gb108) (o := .cells #[.string a0] 9 (0, 0)) (by (with_reducible repeat (first | refine jc ?_ _ | refine qc ?_ | refine ic ?_ _)); exact BK108.out) hg (Kd.zat HO_106001.out BK108.out (by decide))); have n6_ := aa.mk (hb); have n7_ := aa.mk (ho); clear HO_9; clear HO_106000; clear BK105; clear BK106; clear BK107; clear BK108; clear HB; clear HO_106001; have HO_9 := n0_; have HO_106000 := n1_; have BK105 := n2_; have BK106 := n3_; have BK107 := n4_; have BK108 := n5_; have HB := n6_; have HO115 := n7_; clear n0_ n1_ n2_ n3_ n4_ n5_ n6_ n7_; clear ho hb hg hat; obtain ⟨Ao19, co19, eo19⟩ := Kd.jB HO115.out; subst eo19; have hcz20_0 : w18.cell? ⟨gb105, 0, none⟩ = some (u106000) := (qd BK105.out 0).trans rfl; have hcz20_1 : w18.cell? ⟨gb105, 1, none⟩ = some (u106001) := (qd BK105.out 1).trans rfl; have hfz20_0 := yc BK105.out 0; have hfz20_1 := yc BK105.out 1))
        go_roundg k1
        case measure => have := HK1.out; omega
        case rel => exact ⟨(wrap64 (x11_1 + 1)), (x106000_1), (y113), (u106000), (.slice Ao19 y113.length co19), (by first | rfl | (simp; done) | (simp [*]; done)), H', ⟨by have := HK1.out; omega⟩, ⟨by (with_reducible repeat (first | apply Kd.R_alloc | apply Kd.R_drewN | apply Kd.mg)); exact Kd.jk (Kd.mr (p := ⟨gb105, 1, none⟩) (Kd.yo HO_9.out BK105.out (by decide)) (fun _ hk => hk.2) (.slice Ao19 y113.length co19)) (fun _ hk => trivial)⟩, ⟨by (with_reducible repeat (first | apply Kd.R_alloc | apply Kd.R_drewN | apply Kd.mg)); exact Kd.jk (Kd.mr (p := ⟨gb105, 1, none⟩) (Kd.yo HO_106000.out BK105.out (by decide)) (fun _ hk => hk.2) (.slice Ao19 y113.length co19)) (fun _ hk => trivial)⟩, ⟨by (with_reducible repeat (first | apply Kd.S_alloc | apply Kd.S_drewN | apply Kd.qh)); exact Kd.xn (Kd.jw (p := ⟨gb105, 1, none⟩) (Kd.xw HO115.out BK105.out (by decide)) (fun _ hk => hk.2) (.slice Ao19 y113.length co19)) (fun _ hk => hk.1)⟩, ⟨by (with_reducible repeat (first | refine jc ?_ _ | refine qc ?_ | refine ic ?_ _)); refine gu (cs := #[u106000, u106001]) ?_ 1 _ rfl; (with_reducible repeat (first | refine jc ?_ _ | refine qc ?_ | refine ic ?_ _)); exact BK105.out⟩, ⟨by (with_reducible repeat (first | refine jc ?_ _ | refine qc ?_ | refine ic ?_ _)); refine zm ?_ NB106_105.out _; (with_reducible repeat (first | refine jc ?_ _ | refine qc ?_ | refine ic ?_ _)); exact BK106.out⟩, ⟨by (with_reducible repeat (first | refine jc ?_ _ | refine qc ?_ | refine ic ?_ _)); refine zm ?_ NB107_105.out _; (with_reducible repeat (first | refine jc ?_ _ | refine qc ?_ | refine ic ?_ _)); exact BK107.out⟩, ⟨by (with_reducible repeat (first | refine jc ?_ _ | refine qc ?_ | refine ic ?_ _)); refine zm ?_ NB108_105.out _; (with_reducible repeat (first | refine jc ?_ _ | refine qc ?_ | refine ic ?_ _)); exact BK108.out⟩, ⟨by repeat (first | (with_reducible first | exact HB.out | apply za | apply ma | apply ib | refine jb ?_ GE105.out | refine jb ?_ GE106.out | refine jb ?_ GE107.out | refine jb ?_ GE108.out) | exact HB.out)⟩⟩
       ·rw [if_neg c13] at H
        exact absurd H (by simp)
      ·rw [if_neg c12] at H
       have c12b0 : ((sM ByteArray.empty t109 x11_1).toList == ([124] : List UInt8)) = false := beq_eq_false_iff_ne.mpr c12
       have c12b1 : ((sM ByteArray.empty t109 x11_1).toList != ([124] : List UInt8)) = true := bne_iff_ne.mpr c12
       replace H := Option.bind_eq_some_iff.mp H
       obtain ⟨t116, A210, H⟩ := H
       replace H : (if (x106001_1.length : Int) > 0 then (if 0 ≤ (wrap64 ((x106001_1.length : Int) - 1)) then (if (wrap64 ((x106001_1.length : Int) - 1)) < (x106001_1.length : Int) then (if (ak x106001_1 (wrap64 ((x106001_1.length : Int) - 1))).length < 17592186044416 then (pg.l0 k1 t109 (t109.length : Int) (wrap64 (x11_1 + 1)) x106000_1 (x106001_1.set ((wrap64 ((x106001_1.length : Int) - 1)) : Int).toNat ((ak x106001_1 (wrap64 ((x106001_1.length : Int) - 1))) ++ [t116]))) else (none)) else (none)) else (none)) else (if x106000_1.length < 17592186044416 then (pg.l0 k1 t109 (t109.length : Int) (wrap64 (x11_1 + 1)) (x106000_1 ++ [t116]) x106001_1) else (none))) = some (r1, r2, r3) := H
       have A21 := aa.mk A210
       clear A210
       by_cases c22 : (x106001_1.length : Int) > 0
       ·rw [if_pos c22] at H
        have c22b0 : decide (0 < (x106001_1.length : Int)) = true := decide_eq_true c22
        have c22b1 : decide (0 < x106001_1.length) = true := decide_eq_true (by omega)
        clear c22
        obtain ⟨ji23, hji23⟩ : ∃ j_ : Int, (wrap64 ((x106001_1.length : Int) - 1)) = j_ := ⟨_, rfl⟩
        replace H : (if 0 ≤ (ji23) then (if (ji23) < (x106001_1.length : Int) then (if (ak x106001_1 (ji23)).length < 17592186044416 then (pg.l0 k1 t109 (t109.length : Int) (wrap64 (x11_1 + 1)) x106000_1 (x106001_1.set ((ji23) : Int).toNat ((ak x106001_1 (ji23)) ++ [t116]))) else (none)) else (none)) else (none)) = some (r1, r2, r3) := by first | (rw [hji23] at H; exact H) | (simp only [hji23] at H ⊢; exact H)
        (try rw [hji23] at A21)
        have hji23w : (IntKind.i64.wrap ((x106001_1.length : Int) - 1)) = ji23 := (wy _).trans hji23
        by_cases c24 : 0 ≤ (ji23)
        ·rw [if_pos c24] at H
         have c24b0 : decide (0 ≤ (ji23)) = true := decide_eq_true c24
         clear c24
         by_cases c25 : (ji23) < (x106001_1.length : Int)
         ·rw [if_pos c25] at H
          have c25b0 : decide ((ji23) < (x106001_1.length : Int)) = true := decide_eq_true c25
          clear c25
          by_cases c26 : (ak x106001_1 (ji23)).length < 17592186044416
          ·rw [if_pos c26] at H
           have LMc26 := aa.mk c26
           clear c26
           obtain ⟨y118, hy118⟩ : ∃ y_ : List Int, y_ = ((ak x106001_1 (ji23)) ++ [t116]) := ⟨_, rfl⟩
           replace H : (pg.l0 k1 t109 (t109.length : Int) (wrap64 (x11_1 + 1)) x106000_1 (x106001_1.set ((ji23) : Int).toNat y118)) = some (r1, r2, r3) := by first | (rw [hy118]; with_reducible exact H) | (have H2_ := (Option.bind_some _ _).symm.trans H; rw [hy118]; with_reducible exact H2_) | (have H2_ := (Option.bind_some _ _).symm.trans H; with_reducible exact H2_) | with_reducible exact H | (rw [hy118]; exact H) | exact H
           have Ny118 := aa.mk hy118
           clear hy118
           obtain ⟨kap, hy121⟩ : ∃ y_ : List (List Int), y_ = (x106001_1.set ((ji23) : Int).toNat y118) := ⟨_, rfl⟩
           replace H : (pg.l0 k1 t109 (t109.length : Int) (wrap64 (x11_1 + 1)) x106000_1 kap) = some (r1, r2, r3) := by first | (rw [hy121]; with_reducible exact H) | (have H2_ := (Option.bind_some _ _).symm.trans H; rw [hy121]; with_reducible exact H2_) | (have H2_ := (Option.bind_some _ _).symm.trans H; with_reducible exact H2_) | with_reducible exact H | (rw [hy121]; exact H) | exact H
           have Ny121 := aa.mk hy121
           clear hy121
           have H' := aa.mk H
           clear H
           have p112 : 0 ≤ (x11_1 : Int) := of_decide_eq_true (by first | (with_reducible assumption) | assumption)
           have q112 : x11_1 < (t109.length : Int) := of_decide_eq_true (by first | (with_reducible assumption) | assumption)
           obtain ⟨ad112, e112, hx112_0⟩ := Kd.uS (Kd.jl HO_9.out).2.2 x11_1 p112 q112
           cases e112
           replace p112 := eq_true p112
           replace q112 := eq_true q112
           try go_wp2_with (first | ((with_reducible refine lh (f := 37) rfl ?_); refine oo (some 23) rfl rfl Tryz.func37 (by kernel_rfl) rfl #[.string (sM ByteArray.empty t109 x11_1), .int .i64 13] rfl (by (try simp only [List.map_toArray, List.map_cons, List.map_nil]); first | done | rfl | (simp only [List.length_drop, List.length_take]; rfl)) ?_; (with_reducible refine (zn.calls (sM ByteArray.empty t109 x11_1) 13 t116 _ (HG.out.below (by repeat (first | (with_reducible first | exact HB.out | apply za | apply ma | apply ib | refine jb ?_ GE105.out | refine jb ?_ GE106.out | refine jb ?_ GE107.out | refine jb ?_ GE108.out) | exact HB.out))) A21.out).mono ?_); rintro e w28 ⟨rfl, hb⟩; refine ⟨_, rfl, ?_⟩; have n0_ := aa.mk (Kd.qj (by (with_reducible repeat (first | apply Kd.R_alloc | apply Kd.R_drewN | apply Kd.mg)); exact HO_9.out) hb); have n1_ := aa.mk (Kd.qj (by (with_reducible repeat (first | apply Kd.R_alloc | apply Kd.R_drewN | apply Kd.mg)); exact HO_106000.out) hb); have n2_ := aa.mk (Kd.vk (by (with_reducible repeat (first | apply Kd.S_alloc | apply Kd.S_drewN | apply Kd.qh)); exact HO_106001.out) hb); have n3_ := aa.mk (lg (g := gb105) (o := .cells #[u106000, u106001] 26 (0, 0)) (by (with_reducible repeat (first | refine jc ?_ _ | refine qc ?_ | refine ic ?_ _)); exact BK105.out) hb); have n4_ := aa.mk (lg (g := gb106) (o := .cells #[.bool false] 4 (0, 0)) (by (with_reducible repeat (first | refine jc ?_ _ | refine qc ?_ | refine ic ?_ _)); exact BK106.out) hb); have n5_ := aa.mk (lg (g := gb107) (o := .cells #[.slice none 0 0, .slice none 0 0] 26 (0, 0)) (by (with_reducible repeat (first | refine jc ?_ _ | refine qc ?_ | refine ic ?_ _)); exact BK107.out) hb); have n6_ := aa.mk (lg (g := gb108) (o := .cells #[.string a0] 9 (0, 0)) (by (with_reducible repeat (first | refine jc ?_ _ | refine qc ?_ | refine ic ?_ _)); exact BK108.out) hb); have n7_ := aa.mk (yf (by repeat (first | (with_reducible first | exact HB.out | apply za | apply ma | apply ib | refine jb ?_ GE105.out | refine jb ?_ GE106.out | refine jb ?_ GE107.out | refine jb ?_ GE108.out) | exact HB.out)) hb); clear HO_9; clear HO_106000; clear HO_106001; clear BK105; clear BK106; clear BK107; clear BK108; clear HB; have HO_9 := n0_; have HO_106000 := n1_; have HO_106001 := n2_; have BK105 := n3_; have BK106 := n4_; have BK107 := n5_; have BK108 := n6_; have HB := n7_; clear n0_ n1_ n2_ n3_ n4_ n5_ n6_ n7_; (try clear hb); (try clear hb2); (try clear hk); (try clear hi); have hnb29 := NB105_106.out; have hnc29 := NB106_105.out; have hnb30 := NB105_107.out; have hnc30 := NB107_105.out; have hnb31 := NB105_108.out; have hnc31 := NB108_105.out; have hcz32_0 : w28.cell? ⟨gb105, 0, none⟩ = some (u106000) := (qd BK105.out 0).trans rfl; have hcz32_1 : w28.cell? ⟨gb105, 1, none⟩ = some (u106001) := (qd BK105.out 1).trans rfl; have hfz32_0 := yc BK105.out 0; have hfz32_1 := yc BK105.out 1; obtain ⟨Ao33, co33, eo33⟩ := Kd.jB HO_106001.out; subst eo33))
           have n0_ := aa.mk (Kd.mg HO_9.out)
           have n1_ := aa.mk (Kd.mg HO_106000.out)
           have n2_ := aa.mk (Kd.qh HO_106001.out)
           have n3_ := aa.mk (qc BK105.out)
           have n4_ := aa.mk (qc BK106.out)
           have n5_ := aa.mk (qc BK107.out)
           have n6_ := aa.mk (qc BK108.out)
           have n7_ := aa.mk (ib HB.out)
           clear HO_9
           clear HO_106000
           clear HO_106001
           clear BK105
           clear BK106
           clear BK107
           clear BK108
           clear HB
           have HO_9 := n0_
           have HO_106000 := n1_
           have HO_106001 := n2_
           have BK105 := n3_
           have BK106 := n4_
           have BK107 := n5_
           have BK108 := n6_
           have HB := n7_
           clear n0_ n1_ n2_ n3_ n4_ n5_ n6_ n7_
           have p117 : 0 ≤ ((ji23) : Int) := of_decide_eq_true (by first | (with_reducible assumption) | assumption)
           have q117 : (ji23) < (x106001_1.length : Int) := of_decide_eq_true (by first | (with_reducible assumption) | assumption)
           obtain ⟨ad117, A117_0, c117_0, e117, hx117_0, hl117_0, hi117_0⟩ := iM (Kd.ko HO_106001.out).2.2 (ji23) p117 q117
           cases e117
           obtain ⟨ce117, hce117, hMe117, hcc117⟩ := Kd.S_get HO_106001.out [] (ji23) p117 (by first | exact q117 | exact of_decide_eq_true (by first | (with_reducible assumption) | assumption) | (have e_ := (Kd.ko HO_106001.out).1; omega))
           obtain ⟨ve117_0, rfl, ge117_0⟩ := hMe117
           have hv117_0 := hcc117 0 _ rfl
           rw [Nat.add_zero, show ((Kd.slice 3 (Kd.int .i64))).sz = 1 from rfl, Nat.mul_one] at hv117_0
           replace hv117_0 := Option.some.inj (hv117_0.symm.trans hx117_0)
           rw [hv117_0] at ge117_0
           have HL117_0 := aa.mk (show Kd.R (Kd.int .i64) 3 _ _ _ _ (ak x106001_1 (ji23)) from ge117_0)
           clear hv117_0 ge117_0
           have HX117_0 := aa.mk hx117_0
           clear hcc117 hce117
           have HR117_0 := aa.mk hi117_0
           have HC117_0 := aa.mk hl117_0
           clear hi117_0 hl117_0
           replace p117 := eq_true p117
           replace q117 := eq_true q117
           obtain ⟨go35, co35, eo35, gb35, gl35, cl35, HG35⟩ := Kd.naK HO_106001.out (by have h_ : ((ji23) : Int) < ((x106001_1.length : Int) : Int) := of_decide_eq_true (by first | (with_reducible assumption) | assumption); have h2_ : 0 ≤ ((ji23) : Int) := (of_decide_eq_true (by first | (with_reducible assumption) | assumption)); omega)
           (first | cases eo35 | (injection eo35 with ea_ en_ ec_; (first | subst ea_ | (injection ea_ with ea_; subst ea_)); subst ec_; clear en_))
           have GB35 := aa.mk gb35
           have GG35 := aa.mk HG35
           clear gb35 gl35 HG35
           (first | simp only [add_plain] at hx117_0 | skip)
           obtain ⟨oki35, ce35, hcl35, hM35, hcc35, _, _, hH35⟩ := Kd.S_elem HO_106001.out [] ((ji23) : Int) (of_decide_eq_true (by first | (with_reducible assumption) | assumption)) (by have h_ : ((ji23) : Int) < ((x106001_1.length : Int) : Int) := of_decide_eq_true (by first | (with_reducible assumption) | assumption); first | exact h_ | (have e_ := (Kd.ko HO_106001.out).1; omega) | simpa using h_)
           obtain ⟨ve35_0, rfl, ge35_0⟩ := hM35
           have hv35 := hcc35 0 _ rfl
           have hX35 := HX117_0.out
           (try simp only [add_plain] at hX35)
           (try simp only [Nat.add_zero] at hv35)
           (try rw [show ((Kd.slice 3 (Kd.int .i64))).sz = 1 from rfl, Nat.mul_one] at hv35)
           replace hv35 := Option.some.inj (hv35.symm.trans hX35)
           subst hv35
           clear hX35 hcc35 hcl35
           have UU35 := aa.mk (show Kd.R (Kd.int .i64) 3 _ w.heap.size oki35 (.slice A117_0 (ak x106001_1 (ji23)).length c117_0) (ak x106001_1 (ji23)) from ge35_0)
           have HH35 := aa.mk hH35
           have HN35 := aa.mk (Kd.ko HO_106001.out).1
           clear hH35 ge35_0
           refine vaI (n := 15) (S := fun w' => w'.cell? ⟨gb105, 0, none⟩ = some (u106000) ∧ w'.cell? ⟨gb105, 1, none⟩ = some (.slice (some ⟨go35, 0, none⟩) x106001_1.length co33) ∧ w'.cell? ⟨go35, ((ji23)).toNat, none⟩ = some (.slice A117_0 (ak x106001_1 (ji23)).length c117_0)) (ds := [14]) #[false, false, false, false, false, false, false, false, false, false, false, false, false, false, false] (by kernel_rfl) rfl rfl ⟨(qd BK105.out 0).trans rfl, (qd BK105.out 1).trans rfl, hx117_0⟩ (fun hHeld => ?_); refine oam pg.tab9 pg.bits9 (fun HT_ HW_ => ?_)
           generalize w28.drew = w34 at HO_9 HO_106000 HO_106001 BK105 BK106 BK107 BK108 HB GG35 HH35 HL117_0 HR117_0 HX117_0 UU35 hx117_0 hHeld ⊢
           refine pO (i := 0) (N := some 29) (v := ?_) (a' := ?_) #[true, false, false, false, false, false, false, false, false, false, false, false, false, false, false] rfl rfl (kI HT_.out (by kernel_rfl)) (fun _ _ _ h => h) (Or.inl ⟨by rfl, ?_⟩) ?_ ?_
           rotate_left
           ·intro w'
            go_simp
            with_reducible rfl
           rotate_left
           ·simp only [Act.put, List.setIfInBounds_toArray, List.set_cons_zero, List.set_cons_succ, wy, i32_w]
            rfl
           refine pO (i := 2) (N := some 31) (v := ?_) (a' := ?_) #[true, false, true, false, false, false, false, false, false, false, false, false, false, false, false] rfl rfl (kI HT_.out (by kernel_rfl)) (fun _ _ _ h => h) (Or.inl ⟨by rfl, ?_⟩) ?_ ?_
           rotate_left
           ·intro w'
            go_simp
            with_reducible rfl
           rotate_left
           ·simp only [Act.put, List.setIfInBounds_toArray, List.set_cons_zero, List.set_cons_succ, wy, i32_w]
            rfl
           refine pO (i := 3) (N := some 32) (v := ?_) (a' := ?_) #[true, false, true, true, false, false, false, false, false, false, false, false, false, false, false] rfl rfl (kI HT_.out (by kernel_rfl)) (fun _ _ _ h => h) (Or.inl ⟨by rfl, ?_⟩) ?_ ?_
           rotate_left
           ·intro w'
            go_simp
            with_reducible rfl
           rotate_left
           ·simp only [Act.put, List.setIfInBounds_toArray, List.set_cons_zero, List.set_cons_succ, wy, i32_w]
            rfl
           refine pO (i := 4) (N := some 33) (v := ?_) (a' := ?_) #[true, false, true, true, true, false, false, false, false, false, false, false, false, false, false] rfl rfl (kI HT_.out (by kernel_rfl)) (fun _ _ _ h => h) (Or.inl ⟨by rfl, ?_⟩) ?_ ?_
           rotate_left
           ·intro w'
            go_simp
            with_reducible rfl
           rotate_left
           ·simp only [Act.put, List.setIfInBounds_toArray, List.set_cons_zero, List.set_cons_succ, wy, i32_w]
            rfl
           refine pO (i := 6) (N := some 35) (v := ?_) (a' := ?_) #[true, false, true, true, true, false, true, false, false, false, false, false, false, false, false] rfl rfl (kI HT_.out (by kernel_rfl)) (fun _ _ _ h => h) (Or.inl ⟨by rfl, ?_⟩) ?_ ?_
           rotate_left
           ·intro w'
            go_simp
            with_reducible rfl
           rotate_left
           ·simp only [Act.put, List.setIfInBounds_toArray, List.set_cons_zero, List.set_cons_succ, wy, i32_w]
            rfl
           refine pO (i := 7) (N := some 36) (v := ?_) (a' := ?_) #[true, false, true, true, true, false, true, true, false, false, false, false, false, false, false] rfl rfl (kI HT_.out (by kernel_rfl)) (fun _ _ _ h => h) (Or.inl ⟨by rfl, ?_⟩) ?_ ?_
           rotate_left
           ·intro w'
            go_simp
            with_reducible rfl
           rotate_left
           ·simp only [Act.put, List.setIfInBounds_toArray, List.set_cons_zero, List.set_cons_succ, wy, i32_w]
            rfl
           refine pO (i := 10) (N := some 39) (v := ?_) (a' := ?_) #[true, false, true, true, true, false, true, true, false, false, true, false, false, false, false] rfl rfl (kI HT_.out (by kernel_rfl)) (fun _ _ _ h => h) (Or.inl ⟨by rfl, ?_⟩) ?_ ?_
           rotate_left
           ·intro w'
            go_simp
            with_reducible rfl
           rotate_left
           ·simp only [Act.put, List.setIfInBounds_toArray, List.set_cons_zero, List.set_cons_succ, wy, i32_w]
            rfl
           refine faq (i := 1) (N := some 30) (v := ?_) (a' := ?_) #[true, true, true, true, true, false, true, true, false, false, true, false, false, false, false] rfl rfl (iW HT_.out HW_.out (by kernel_rfl)) (fun _ _ _ h => h) (Or.inl ⟨by rfl, ?_⟩) hHeld ?_ ?_
           rotate_left
           ·rintro w' ⟨s0, s1, s2⟩
            go_simp
            with_reducible rfl
           rotate_left
           ·simp only [Act.put, List.setIfInBounds_toArray, List.set_cons_zero, List.set_cons_succ, wy, i32_w]
            rfl
           refine faq (i := 5) (N := some 34) (v := ?_) (a' := ?_) #[true, true, true, true, true, true, true, true, false, false, true, false, false, false, false] rfl rfl (iW HT_.out HW_.out (by kernel_rfl)) (fun _ _ _ h => h) (Or.inl ⟨by rfl, ?_⟩) hHeld ?_ ?_
           rotate_left
           ·rintro w' ⟨s0, s1, s2⟩
            go_simp
            with_reducible rfl
           rotate_left
           ·simp only [Act.put, List.setIfInBounds_toArray, List.set_cons_zero, List.set_cons_succ, wy, i32_w]
            rfl
           refine pO (i := 8) (N := some 37) (v := ?_) (a' := ?_) #[true, true, true, true, true, true, true, true, true, false, true, false, false, false, false] rfl rfl (kI HT_.out (by kernel_rfl)) (fun _ _ _ h => h) (Or.inl ⟨by rfl, ?_⟩) ?_ ?_
           rotate_left
           ·intro w'
            go_simp
            with_reducible rfl
           rotate_left
           ·simp only [Act.put, List.setIfInBounds_toArray, List.set_cons_zero, List.set_cons_succ, wy, i32_w]
            rfl
           refine faq (i := 9) (N := some 38) (v := ?_) (a' := ?_) #[true, true, true, true, true, true, true, true, true, true, true, false, false, false, false] rfl rfl (iW HT_.out HW_.out (by kernel_rfl)) (fun _ _ _ h => h) (Or.inl ⟨by rfl, ?_⟩) hHeld ?_ ?_
           rotate_left
           ·rintro w' ⟨s0, s1, s2⟩
            go_simp
            with_reducible rfl
           rotate_left
           ·simp only [Act.put, List.setIfInBounds_toArray, List.set_cons_zero, List.set_cons_succ, wy, i32_w]
            rfl
           refine one_ (i := 11) (N := some 40) #[true, true, true, true, true, true, true, true, true, true, true, true, false, false, false] rfl rfl (vai HT_.out (by kernel_rfl)) (by decide) (fun K hK => ?_)
           refine jaI (w1 := ?_) (v := ?_) (by rfl) rfl ?_ ?_
           rotate_left 2
           ·go_simp
            constructor
            ·rfl
            ·rfl
           refine hK.out _ _ ⟨(qd (ic BK105.out _) 0).trans rfl, (qd (ic BK105.out _) 1).trans rfl, (World.cell?_alloc_lt _ _ _ (World.block_lt_of_cell? _ _ (hHeld.2.2))).trans (hHeld.2.2)⟩ (fun hHeld => ?_)
           clear hK K
           refine sax (a' := ?_) ?_ ?_
           rotate_left
           ·show Act.put _ (some 40) _ = _
            simp only [Act.put, List.setIfInBounds_toArray, List.set_cons_zero, List.set_cons_succ, wy, i32_w]
            rfl
           refine one_ (i := 12) (N := some 41) #[true, true, true, true, true, true, true, true, true, true, true, true, true, false, false] rfl rfl (vai HT_.out (by kernel_rfl)) (by decide) (fun K hK => ?_)
           refine Kd.u7 (Kd.int .i64) (w0 := w) w.heap.size (by rfl) (.tmp 38) (.tmp 40) 23 3 (.int .i64 0) 8 rfl Tryz.underlying23 info3 rfl (by decide) (by omega) (.slice A117_0 (ak x106001_1 (ji23)).length c117_0) (ak x106001_1 (ji23)) t116 [.int .i64 t116] (fun k_ => oki35 k_ ∨ ((fun k_ => some k_ ≠ (u106000 : Value).ownBlock)) k_ ∧ w34.heap.size ≤ k_) (fun _ => False) rfl rfl ?aP (fun _ hk => hk.elim) ?aF ?aO ?aB ?aS ?aL ?_
           (case aP => exact rfl)
           (case aB => exact (by repeat (first | (with_reducible first | exact HB.out | apply za | apply ma | apply ib | refine jb ?_ GE105.out | refine jb ?_ GE106.out | refine jb ?_ GE107.out | refine jb ?_ GE108.out) | exact HB.out)))
           (case aF => exact (fun k_ hk => .inr ⟨Kd.fresh' (Kd.wN (by (with_reducible repeat (first | apply Kd.R_alloc | apply Kd.R_drewN | apply Kd.mg)); exact HO_106000.out)) k_ hk, hk⟩))
           (case aO => exact (by (with_reducible repeat (first | apply Kd.R_alloc | apply Kd.R_drewN | apply Kd.mg)); exact Kd.jk UU35.out (fun _ hk => .inl hk)))
           (case aS => exact (qf (by repeat (first | (with_reducible first | exact HB.out | apply za | apply ma | apply ib | refine jb ?_ GE105.out | refine jb ?_ GE106.out | refine jb ?_ GE107.out | refine jb ?_ GE108.out) | exact HB.out))))
           (case aL => have := LMc26.out; omega)
           intro v119 w36 ho hb hg hat
           (first | have HS2_ := cell_grown hg (hHeld.2.2) (by first | (rw [add_block]; exact (fun e_ => ((HL117_0.out.1 _ e_.symm).2) rfl)) | (show some (Addr.add _ _).block ≠ _; rw [add_block]; exact (fun e_ => ((HL117_0.out.1 _ e_.symm).2) rfl)) | exact (fun e_ => ((HL117_0.out.1 _ e_.symm).2) rfl)) | have HS2_ := cell_grown hg (gad (hHeld.2.2) (by first | (rw [add_block]; exact Kd.sah HO_106001.out _ rfl) | (show (Addr.add _ _).block < _; rw [add_block]; exact Kd.sah HO_106001.out _ rfl) | exact Kd.sah HO_106001.out _ rfl)) (by first | (rw [add_block]; exact (fun e_ => ((HL117_0.out.1 _ e_.symm).2) rfl)) | (show some (Addr.add _ _).block ≠ _; rw [add_block]; exact (fun e_ => ((HL117_0.out.1 _ e_.symm).2) rfl)) | exact (fun e_ => ((HL117_0.out.1 _ e_.symm).2) rfl)))
           rw [← Ny118.out] at ho
           have n0_ := aa.mk (Kd.oQ (v := (.slice A117_0 (ak x106001_1 (ji23)).length c117_0)) (by (with_reducible repeat (first | apply Kd.R_alloc | apply Kd.R_drewN | apply Kd.mg)); exact HO_9.out) (Kd.sV HL117_0.out) (by decide) hg)
           have n1_ := aa.mk (Kd.aau (by (with_reducible repeat (first | apply Kd.R_alloc | apply Kd.R_drewN | apply Kd.mg)); exact HO_106000.out) rfl hg (fun k_ e_ => (HL117_0.out.1 k_ e_).1))
           have n2_ := aa.mk (vo (g := gb105) (o := .cells #[u106000, .slice (some ⟨go35, 0, none⟩) x106001_1.length co33] 26 (0, 0)) (by (with_reducible repeat (first | refine jc ?_ _ | refine qc ?_ | refine ic ?_ _)); exact BK105.out) hg (Kd.vN HL117_0.out BK105.out (by decide)))
           have n3_ := aa.mk (vo (g := gb106) (o := .cells #[.bool false] 4 (0, 0)) (by (with_reducible repeat (first | refine jc ?_ _ | refine qc ?_ | refine ic ?_ _)); exact BK106.out) hg (Kd.vN HL117_0.out BK106.out (by decide)))
           have n4_ := aa.mk (vo (g := gb107) (o := .cells #[.slice none 0 0, .slice none 0 0] 26 (0, 0)) (by (with_reducible repeat (first | refine jc ?_ _ | refine qc ?_ | refine ic ?_ _)); exact BK107.out) hg (Kd.vN HL117_0.out BK107.out (by decide)))
           have n5_ := aa.mk (vo (g := gb108) (o := .cells #[.string a0] 9 (0, 0)) (by (with_reducible repeat (first | refine jc ?_ _ | refine qc ?_ | refine ic ?_ _)); exact BK108.out) hg (Kd.vN HL117_0.out BK108.out (by decide)))
           have n6_ := aa.mk (hb)
           have n7_ := aa.mk (Kd.jax (Kd.iax (by repeat (first | exact HH35.out | refine Kd.H_alloc ?_ _ | refine Kd.H_drewN ?_ _ | refine Kd.H_drew ?_))) hg (fun k_ e_ => .inl (UU35.out.1 k_ e_)))
           have n8_ := aa.mk (ho)
           clear HO_9
           clear HO_106000
           clear BK105
           clear BK106
           clear BK107
           clear BK108
           clear HB
           clear HH35
           clear HO_106001
           clear UU35
           clear HL117_0
           have HO_9 := n0_
           have HO_106000 := n1_
           have BK105 := n2_
           have BK106 := n3_
           have BK107 := n4_
           have BK108 := n5_
           have HB := n6_
           have HH35 := n7_
           have HO120 := n8_
           clear n0_ n1_ n2_ n3_ n4_ n5_ n6_ n7_ n8_
           clear ho hb hg hat
           have p27 : 0 ≤ ((ji23) : Int) := of_decide_eq_true (by first | (with_reducible assumption) | assumption)
           have q27 : ((ji23) : Int) < ((x106001_1.length : Int) : Int) := of_decide_eq_true (by first | (with_reducible assumption) | assumption)
           replace p27 := eq_true p27
           replace q27 := eq_true q27
           obtain ⟨Ao39, co39, eo39⟩ := Kd.ay HO120.out
           (first | subst eo39 | (injection eo39 with f1_ f2_ f3_; have f4_ := f1_.symm; have f5_ := f3_.symm; clear f1_ f2_ f3_; subst f4_; subst f5_))
           obtain ⟨_, _, hraw37, _, _, hcc37, _⟩ := Kd.eau HH35.out (of_decide_eq_true (by first | (with_reducible assumption) | assumption)) (by have h_ : ((ji23) : Int) < ((x106001_1.length : Int) : Int) := of_decide_eq_true (by first | (with_reducible assumption) | assumption); first | exact h_ | (have e_ := (HN35.out); omega) | simpa using h_)
           obtain ⟨_, hfr37⟩ := Kd.H_at HH35.out (of_decide_eq_true (by first | (with_reducible assumption) | assumption)) (by have h_ : ((ji23) : Int) < ((x106001_1.length : Int) : Int) := of_decide_eq_true (by first | (with_reducible assumption) | assumption); first | exact h_ | (have e_ := (HN35.out); omega) | simpa using h_)
           have hx37_0 := hcc37 0 _ rfl
           have hf37_0 := hfr37 0
           (try simp only [Nat.add_zero] at hx37_0 hf37_0)
           (try rw [show ((Kd.slice 3 (Kd.int .i64))).sz = 1 from rfl, Nat.mul_one] at hx37_0)
           (try rw [show ((Kd.slice 3 (Kd.int .i64))).sz = 1 from rfl, Nat.mul_one] at hf37_0)
           have HP37 := Kd.kaK HH35.out (of_decide_eq_true (by first | (with_reducible assumption) | assumption)) (by have h_ : ((ji23) : Int) < ((x106001_1.length : Int) : Int) := of_decide_eq_true (by first | (with_reducible assumption) | assumption); first | exact h_ | (have e_ := (HN35.out); omega) | simpa using h_) (seg := [.slice Ao39 y118.length co39]) (j := 0) (show 1 ≤ 1 from by decide) (x' := y118) (Kd.bay HO120.out) (fun _ hk => hk)
           (try simp only [show ((Kd.slice 3 (Kd.int .i64))).sz = 1 from rfl, Nat.mul_one, Nat.add_zero] at HP37)
           clear hcc37 hfr37
           have HNB105_go35 := aa.mk (show gb105 ≠ go35 from by have h_ := Kd.vN hraw37 BK105.out (by decide); intro e_; exact h_ (by rw [e_]; rfl))
           have HNB106_go35 := aa.mk (show gb106 ≠ go35 from by have h_ := Kd.vN hraw37 BK106.out (by decide); intro e_; exact h_ (by rw [e_]; rfl))
           have HNB107_go35 := aa.mk (show gb107 ≠ go35 from by have h_ := Kd.vN hraw37 BK107.out (by decide); intro e_; exact h_ (by rw [e_]; rfl))
           have HNB108_go35 := aa.mk (show gb108 ≠ go35 from by have h_ := Kd.vN hraw37 BK108.out (by decide); intro e_; exact h_ (by rw [e_]; rfl))
           have HS37 := HP37.1
           rw [← Ny121.out] at HS37
           have HQ37 := aa.mk HS37
           obtain ⟨_, hgg37⟩ := Kd.sV hraw37 go35 rfl
           have GG37_ := aa.mk hgg37
           clear HP37 HS37 hgg37
           refine hK.out _ _ ⟨(qd BK105.out 0).trans rfl, (qd BK105.out 1).trans rfl, HS2_⟩ (fun hHeld => ?_)
           clear hK K
           refine sax (a' := ?_) ?_ ?_
           rotate_left
           ·show Act.put _ (some 41) _ = _
            simp only [Act.put, List.setIfInBounds_toArray, List.set_cons_zero, List.set_cons_succ, wy, i32_w]
            rfl
           refine pO (i := 13) (N := some 42) (v := ?_) (a' := ?_) #[true, true, true, true, true, true, true, true, true, true, true, true, true, true, false] rfl rfl (kI HT_.out (by kernel_rfl)) (fun _ _ _ h => h) (Or.inl ⟨by rfl, ?_⟩) ?_ ?_
           rotate_left
           ·intro w'
            go_simp
            with_reducible rfl
           rotate_left
           ·simp only [Act.put, List.setIfInBounds_toArray, List.set_cons_zero, List.set_cons_succ, wy, i32_w]
            rfl
           refine last_ (i := 14) (N := none) #[true, true, true, true, true, true, true, true, true, true, true, true, true, true, true] rfl rfl (vai HT_.out (by kernel_rfl)) (by decide) (fun K hK => ?_)
           refine skip_ (w1 := ?_) (by rfl) rfl ?_ ?_
           rotate_left
           ·go_simp
            rfl
           refine hK.out _ _ ?_
           clear hK K
           refine done_ (saw HT_.out (by kernel_rfl)) ?_
           try go_wp2
           go_roundg k1
           case measure => have := HK1.out; omega
           case rel => exact ⟨(wrap64 (x11_1 + 1)), (x106000_1), (kap), (u106000), (.slice (some ⟨go35, 0, none⟩) x106001_1.length co33), (by first | rfl | (simp; done) | (simp [*]; done)), H', ⟨by have := HK1.out; omega⟩, ⟨by (with_reducible repeat (first | apply Kd.R_alloc | apply Kd.R_drewN | apply Kd.mg)); exact Kd.jk (Kd.mr (p := ⟨go35, ((ji23) : Int).toNat, none⟩) (Kd.yo HO_9.out GG37_.out (by decide)) (fun _ hk => hk.2) (.slice Ao39 y118.length co39)) (fun _ hk => trivial)⟩, ⟨by (with_reducible repeat (first | apply Kd.R_alloc | apply Kd.R_drewN | apply Kd.mg)); exact Kd.jk (Kd.mr (p := ⟨go35, ((ji23) : Int).toNat, none⟩) (Kd.yo HO_106000.out GG37_.out (by decide)) (fun _ hk => hk.2) (.slice Ao39 y118.length co39)) (fun _ hk => trivial)⟩, ⟨by (with_reducible repeat (first | apply Kd.S_alloc | apply Kd.S_drewN | apply Kd.qh)); exact HQ37.out⟩, ⟨by (with_reducible repeat (first | refine jc ?_ _ | refine qc ?_ | refine ic ?_ _)); refine zm ?_ HNB105_go35.out _; (with_reducible repeat (first | refine jc ?_ _ | refine qc ?_ | refine ic ?_ _)); exact BK105.out⟩, ⟨by (with_reducible repeat (first | refine jc ?_ _ | refine qc ?_ | refine ic ?_ _)); refine zm ?_ HNB106_go35.out _; (with_reducible repeat (first | refine jc ?_ _ | refine qc ?_ | refine ic ?_ _)); exact BK106.out⟩, ⟨by (with_reducible repeat (first | refine jc ?_ _ | refine qc ?_ | refine ic ?_ _)); refine zm ?_ HNB107_go35.out _; (with_reducible repeat (first | refine jc ?_ _ | refine qc ?_ | refine ic ?_ _)); exact BK107.out⟩, ⟨by (with_reducible repeat (first | refine jc ?_ _ | refine qc ?_ | refine ic ?_ _)); refine zm ?_ HNB108_go35.out _; (with_reducible repeat (first | refine jc ?_ _ | refine qc ?_ | refine ic ?_ _)); exact BK108.out⟩, ⟨by repeat (first | (with_reducible first | exact HB.out | apply za | apply ma | apply ib | refine jb ?_ GB35.out | refine jb ?_ GE105.out | refine jb ?_ GE106.out | refine jb ?_ GE107.out | refine jb ?_ GE108.out) | exact HB.out)⟩⟩
          ·rw [if_neg c26] at H
           exact absurd H (by simp)
         ·rw [if_neg c25] at H
          exact absurd H (by simp)
        ·rw [if_neg c24] at H
         exact absurd H (by simp)
       ·rw [if_neg c22] at H
        have c22b0 : decide (0 < (x106001_1.length : Int)) = false := decide_eq_false c22
        have c22b1 : decide (0 < x106001_1.length) = false := decide_eq_false (by omega)
        clear c22
        by_cases c40 : x106000_1.length < 17592186044416
        ·rw [if_pos c40] at H
         have LMc40 := aa.mk c40
         clear c40
         obtain ⟨y122, hy122⟩ : ∃ y_ : List Int, y_ = (x106000_1 ++ [t116]) := ⟨_, rfl⟩
         replace H : (pg.l0 k1 t109 (t109.length : Int) (wrap64 (x11_1 + 1)) y122 x106001_1) = some (r1, r2, r3) := by first | (rw [hy122]; with_reducible exact H) | (have H2_ := (Option.bind_some _ _).symm.trans H; rw [hy122]; with_reducible exact H2_) | (have H2_ := (Option.bind_some _ _).symm.trans H; with_reducible exact H2_) | with_reducible exact H | (rw [hy122]; exact H) | exact H
         have Ny122 := aa.mk hy122
         clear hy122
         have H' := aa.mk H
         clear H
         have p112 : 0 ≤ (x11_1 : Int) := of_decide_eq_true (by first | (with_reducible assumption) | assumption)
         have q112 : x11_1 < (t109.length : Int) := of_decide_eq_true (by first | (with_reducible assumption) | assumption)
         obtain ⟨ad112, e112, hx112_0⟩ := Kd.uS (Kd.jl HO_9.out).2.2 x11_1 p112 q112
         cases e112
         replace p112 := eq_true p112
         replace q112 := eq_true q112
         go_wp2_with (first | ((with_reducible refine lh (f := 37) rfl ?_); refine oo (some 23) rfl rfl Tryz.func37 (by kernel_rfl) rfl #[.string (sM ByteArray.empty t109 x11_1), .int .i64 13] rfl (by (try simp only [List.map_toArray, List.map_cons, List.map_nil]); first | done | rfl | (simp only [List.length_drop, List.length_take]; rfl)) ?_; (with_reducible refine (zn.calls (sM ByteArray.empty t109 x11_1) 13 t116 _ (HG.out.below (by repeat (first | (with_reducible first | exact HB.out | apply za | apply ma | apply ib | refine jb ?_ GE105.out | refine jb ?_ GE106.out | refine jb ?_ GE107.out | refine jb ?_ GE108.out) | exact HB.out))) A21.out).mono ?_); rintro e w41 ⟨rfl, hb⟩; refine ⟨_, rfl, ?_⟩; have n0_ := aa.mk (Kd.qj (by (with_reducible repeat (first | apply Kd.R_alloc | apply Kd.R_drewN | apply Kd.mg)); exact HO_9.out) hb); have n1_ := aa.mk (Kd.qj (by (with_reducible repeat (first | apply Kd.R_alloc | apply Kd.R_drewN | apply Kd.mg)); exact HO_106000.out) hb); have n2_ := aa.mk (Kd.vk (by (with_reducible repeat (first | apply Kd.S_alloc | apply Kd.S_drewN | apply Kd.qh)); exact HO_106001.out) hb); have n3_ := aa.mk (lg (g := gb105) (o := .cells #[u106000, u106001] 26 (0, 0)) (by (with_reducible repeat (first | refine jc ?_ _ | refine qc ?_ | refine ic ?_ _)); exact BK105.out) hb); have n4_ := aa.mk (lg (g := gb106) (o := .cells #[.bool false] 4 (0, 0)) (by (with_reducible repeat (first | refine jc ?_ _ | refine qc ?_ | refine ic ?_ _)); exact BK106.out) hb); have n5_ := aa.mk (lg (g := gb107) (o := .cells #[.slice none 0 0, .slice none 0 0] 26 (0, 0)) (by (with_reducible repeat (first | refine jc ?_ _ | refine qc ?_ | refine ic ?_ _)); exact BK107.out) hb); have n6_ := aa.mk (lg (g := gb108) (o := .cells #[.string a0] 9 (0, 0)) (by (with_reducible repeat (first | refine jc ?_ _ | refine qc ?_ | refine ic ?_ _)); exact BK108.out) hb); have n7_ := aa.mk (yf (by repeat (first | (with_reducible first | exact HB.out | apply za | apply ma | apply ib | refine jb ?_ GE105.out | refine jb ?_ GE106.out | refine jb ?_ GE107.out | refine jb ?_ GE108.out) | exact HB.out)) hb); clear HO_9; clear HO_106000; clear HO_106001; clear BK105; clear BK106; clear BK107; clear BK108; clear HB; have HO_9 := n0_; have HO_106000 := n1_; have HO_106001 := n2_; have BK105 := n3_; have BK106 := n4_; have BK107 := n5_; have BK108 := n6_; have HB := n7_; clear n0_ n1_ n2_ n3_ n4_ n5_ n6_ n7_; (try clear hb); (try clear hb2); (try clear hk); (try clear hi); have hnb42 := NB105_106.out; have hnc42 := NB106_105.out; have hnb43 := NB105_107.out; have hnc43 := NB107_105.out; have hnb44 := NB105_108.out; have hnc44 := NB108_105.out; have hcz45_0 : w41.cell? ⟨gb105, 0, none⟩ = some (u106000) := (qd BK105.out 0).trans rfl; have hcz45_1 : w41.cell? ⟨gb105, 1, none⟩ = some (u106001) := (qd BK105.out 1).trans rfl; have hfz45_0 := yc BK105.out 0; have hfz45_1 := yc BK105.out 1; obtain ⟨Ao46, co46, eo46⟩ := Kd.jB HO_106001.out; subst eo46) | ((with_reducible refine dB (b := .append) (xs := #[.tmp 44, .tmp 46]) rfl ?_); at_builtin; refine Kd.qQ (Kd.int .i64) (w0 := w) w.heap.size rfl (.tmp 44) (.tmp 46) 23 3 (.int .i64 0) 8 rfl Tryz.underlying23 info3 rfl (by decide) (by omega) u106000 x106000_1 t116 [.int .i64 t116] (fun _ => True) (fun _ => False) rfl rfl ?aP (fun _ hk => hk.elim) ?aF ?aO ?aB ?aS ?aL ?_; (case aP => first | exact rfl | exact ⟨_, rfl, Kd.pQ _ _ _ _ _⟩); (case aB => exact (by repeat (first | (with_reducible first | exact HB.out | apply za | apply ma | apply ib | refine jb ?_ GE105.out | refine jb ?_ GE106.out | refine jb ?_ GE107.out | refine jb ?_ GE108.out) | exact HB.out))); (case aF => exact (fun _ _ => trivial)); (case aO => exact (by (with_reducible repeat (first | apply Kd.R_alloc | apply Kd.R_drewN | apply Kd.mg)); exact HO_106000.out)); (case aS => exact (qf (by repeat (first | (with_reducible first | exact HB.out | apply za | apply ma | apply ib | refine jb ?_ GE105.out | refine jb ?_ GE106.out | refine jb ?_ GE107.out | refine jb ?_ GE108.out) | exact HB.out)))); (case aL => have := LMc40.out; omega); intro v123 w47 ho hb hg hat; rw [← Ny122.out] at ho; have n0_ := aa.mk (Kd.oQ (by (with_reducible repeat (first | apply Kd.R_alloc | apply Kd.R_drewN | apply Kd.mg)); exact HO_9.out) (Kd.sV (by (with_reducible repeat (first | apply Kd.R_alloc | apply Kd.R_drewN | apply Kd.mg)); exact HO_106000.out)) (by decide) hg); have n1_ := aa.mk (Kd.fam (ok := (fun _ => True)) (by (with_reducible repeat (first | apply Kd.S_alloc | apply Kd.S_drewN | apply Kd.qh)); exact Kd.xn HO_106001.out (fun _ hk => ⟨trivial, hk⟩)) hg hat); have n2_ := aa.mk (vo (g := gb105) (o := .cells #[u106000, .slice Ao46 x106001_1.length co46] 26 (0, 0)) (by (with_reducible repeat (first | refine jc ?_ _ | refine qc ?_ | refine ic ?_ _)); exact BK105.out) hg (Kd.vN HO_106000.out BK105.out (by decide))); have n3_ := aa.mk (vo (g := gb106) (o := .cells #[.bool false] 4 (0, 0)) (by (with_reducible repeat (first | refine jc ?_ _ | refine qc ?_ | refine ic ?_ _)); exact BK106.out) hg (Kd.vN HO_106000.out BK106.out (by decide))); have n4_ := aa.mk (vo (g := gb107) (o := .cells #[.slice none 0 0, .slice none 0 0] 26 (0, 0)) (by (with_reducible repeat (first | refine jc ?_ _ | refine qc ?_ | refine ic ?_ _)); exact BK107.out) hg (Kd.vN HO_106000.out BK107.out (by decide))); have n5_ := aa.mk (vo (g := gb108) (o := .cells #[.string a0] 9 (0, 0)) (by (with_reducible repeat (first | refine jc ?_ _ | refine qc ?_ | refine ic ?_ _)); exact BK108.out) hg (Kd.vN HO_106000.out BK108.out (by decide))); have n6_ := aa.mk (hb); have n7_ := aa.mk (ho); clear HO_9; clear HO_106001; clear BK105; clear BK106; clear BK107; clear BK108; clear HB; clear HO_106000; have HO_9 := n0_; have HO_106001 := n1_; have BK105 := n2_; have BK106 := n3_; have BK107 := n4_; have BK108 := n5_; have HB := n6_; have HO124 := n7_; clear n0_ n1_ n2_ n3_ n4_ n5_ n6_ n7_; clear ho hb hg hat; obtain ⟨Ao48, co48, eo48⟩ := Kd.ay HO124.out; subst eo48; have hcz49_0 : w47.cell? ⟨gb105, 0, none⟩ = some (u106000) := (qd BK105.out 0).trans rfl; have hcz49_1 : w47.cell? ⟨gb105, 1, none⟩ = some (.slice Ao46 x106001_1.length co46) := (qd BK105.out 1).trans rfl; have hfz49_0 := yc BK105.out 0; have hfz49_1 := yc BK105.out 1))
         go_roundg k1
         case measure => have := HK1.out; omega
         case rel => exact ⟨(wrap64 (x11_1 + 1)), (y122), (x106001_1), (.slice Ao48 y122.length co48), (.slice Ao46 x106001_1.length co46), (by first | rfl | (simp; done) | (simp [*]; done)), H', ⟨by have := HK1.out; omega⟩, ⟨by (with_reducible repeat (first | apply Kd.R_alloc | apply Kd.R_drewN | apply Kd.mg)); exact Kd.jk (Kd.mr (p := ⟨gb105, 0, none⟩) (Kd.yo HO_9.out BK105.out (by decide)) (fun _ hk => hk.2) (.slice Ao48 y122.length co48)) (fun _ hk => trivial)⟩, ⟨by (with_reducible repeat (first | apply Kd.R_alloc | apply Kd.R_drewN | apply Kd.mg)); exact Kd.jk (Kd.mr (p := ⟨gb105, 0, none⟩) (Kd.yo HO124.out BK105.out (by decide)) (fun _ hk => hk.2) (.slice Ao48 y122.length co48)) (fun _ hk => trivial)⟩, ⟨by (with_reducible repeat (first | apply Kd.S_alloc | apply Kd.S_drewN | apply Kd.qh)); exact Kd.xn (Kd.jw (p := ⟨gb105, 0, none⟩) (Kd.xw HO_106001.out BK105.out (by decide)) (fun _ hk => hk.2) (.slice Ao48 y122.length co48)) (fun _ hk => hk.1.2)⟩, ⟨by (with_reducible repeat (first | refine jc ?_ _ | refine qc ?_ | refine ic ?_ _)); refine gu (cs := #[u106000, .slice Ao46 x106001_1.length co46]) ?_ 0 _ rfl; (with_reducible repeat (first | refine jc ?_ _ | refine qc ?_ | refine ic ?_ _)); exact BK105.out⟩, ⟨by (with_reducible repeat (first | refine jc ?_ _ | refine qc ?_ | refine ic ?_ _)); refine zm ?_ NB106_105.out _; (with_reducible repeat (first | refine jc ?_ _ | refine qc ?_ | refine ic ?_ _)); exact BK106.out⟩, ⟨by (with_reducible repeat (first | refine jc ?_ _ | refine qc ?_ | refine ic ?_ _)); refine zm ?_ NB107_105.out _; (with_reducible repeat (first | refine jc ?_ _ | refine qc ?_ | refine ic ?_ _)); exact BK107.out⟩, ⟨by (with_reducible repeat (first | refine jc ?_ _ | refine qc ?_ | refine ic ?_ _)); refine zm ?_ NB108_105.out _; (with_reducible repeat (first | refine jc ?_ _ | refine qc ?_ | refine ic ?_ _)); exact BK108.out⟩, ⟨by repeat (first | (with_reducible first | exact HB.out | apply za | apply ma | apply ib | refine jb ?_ GE105.out | refine jb ?_ GE106.out | refine jb ?_ GE107.out | refine jb ?_ GE108.out) | exact HB.out)⟩⟩
        ·rw [if_neg c40] at H
         exact absurd H (by simp)
     ·rw [if_neg c11] at H
      exact absurd H (by simp)
    ·rw [if_neg c10] at H
     exact absurd H (by simp)
   ·rw [if_neg c9] at H
    have c9b0 : decide (x11_1 < (t109.length : Int)) = false := decide_eq_false c9
    clear c9
    simp only [Option.some.injEq, Prod.mk.injEq] at H
    obtain ⟨rfl, rfl, rfl⟩ := H
    go_wp2
    go_end0
    exact ⟨rfl, u106000, u106001, by (with_reducible repeat (first | refine jc ?_ _ | refine qc ?_ | refine ic ?_ _)); exact BK105.out, by (with_reducible repeat (first | refine jc ?_ _ | refine qc ?_ | refine ic ?_ _)); exact BK106.out, by (with_reducible repeat (first | refine jc ?_ _ | refine qc ?_ | refine ic ?_ _)); exact BK107.out, by (with_reducible repeat (first | refine jc ?_ _ | refine qc ?_ | refine ic ?_ _)); exact BK108.out, by (with_reducible repeat (first | apply Kd.R_alloc | apply Kd.R_drewN | apply Kd.mg)); exact HO_106000.out, by (with_reducible repeat (first | apply Kd.S_alloc | apply Kd.S_drewN | apply Kd.qh)); exact HO_106001.out, by repeat (first | (with_reducible first | exact HB.out | apply za | apply ma | apply ib | refine jb ?_ GE105.out | refine jb ?_ GE106.out | refine jb ?_ GE107.out | refine jb ?_ GE108.out) | exact HB.out)⟩
end Go.Proofs.YtcbeheaiblgpfaaGreatDoor.Ask
end
noncomputable section
namespace Go.Proofs.YtcbeheaiblgpfaaGreatDoor.Ask
open Go.RowKit Go.Proofs.YtcbeheaiblgpfaaGreatDoorW.PrintWords Go.Proofs.YtcbeheaiblgpfaaGreatDoorW.PrintLast Go.Proofs.YtcbeheaiblgpfaaGreatDoorW.PrintMore
theorem dak (p : Addr) (w : World) :
  CallsD Tryz.prog 75 #[.pointer (some p)] .returning w fun e u' w' => e = .returned (.tuple #[]) ∧ u' = .returning ∧ w' = w := by
 refine callsD_of_wpS Tryz.func75 rfl fun c₀ cs hu => ?_
 apply wpS_seq
 apply wpS_region
 simp [wpOpsS, go_sem, recoverD, hu, Tryz.ntmps75, Exit.thenS]
 apply wpS_seq
 apply wpS_region
 simp [wpOpsS, go_sem, recoverD, hu, Tryz.ntmps75, Exit.thenS]
 refine wpS_cond (t := false) (by simp [Act.eval, Array.replicate]) ?_
 simp only [Bool.false_eq_true, if_false]
 refine wpS_of_wp (wp_skip ?_)
 cases c₀
 simp_all [bodyPostS, results, Tryz.results75]
theorem jae (cap : Array Value) (w : World) (Ψ : World → Prop)
  (hc : Calls Tryz.prog 35 cap (w.alloc (.cells #[.bool false] 4 (0, 0))) fun e w' => e = .returned (.tuple #[]) ∧ Ψ w' ∧ w'.heap[w.heap.size]? = some (.cells #[.bool false] 4 (0, 0))) :
  Calls Tryz.prog 34 #[.func (.func 35) #[] cap] w fun e w' => e = .returned (.bool true) ∧ ∃ w2, Ψ w2 ∧ w' = w2.setCell ⟨w.heap.size, 0, none⟩ (.bool true) := by
 have hmf : ∀ (fn : Fn) (first cap : Array Value) (w : World), (Instr.makeFunc fn first cap).run Tryz.prog w = .ok (.func fn first cap) w := fun _ _ _ _ => rfl
 go_enter_defers Tryz.func34, Tryz.ntmps34
 go_wp2_with fail
 go_at_call 35
 refine hc.mono ?_
 rintro e w2 ⟨rfl, hP, hb⟩
 have hz := yc hb 0
 have hz2 := (qd hb 0).trans rfl
 go_wp2
 refine leaves_cons (f := 75) (args := #[.pointer (some ⟨w.heap.size, 0, none⟩)]) (by simp) (by simp [go_sem]) ?_
 refine (dak ⟨w.heap.size, 0, none⟩ _).mono ?_
 rintro e u' w'' ⟨rfl, rfl, rfl⟩
 have hs : (w2.setCell ⟨w.heap.size, 0, none⟩ (.bool true)).cell? ⟨w.heap.size, 0, none⟩ = some (.bool true) :=
  (qd (gu (cs := #[.bool false]) hb 0 _ rfl) 0).trans rfl
 simp [Leaves, settle, results, Tryz.results34, go_sem, hs]
 exact ⟨w2, hP, rfl⟩
theorem yag (sb gb : Nat) (a0 : ByteArray) (w : World) (hs : w.cell? ⟨sb, 0, none⟩ = some (.string a0)) (h0 : a0.toList = []) :
  Calls Tryz.prog 35 #[.pointer (some ⟨sb, 0, none⟩), .pointer (some ⟨gb, 0, none⟩)] w fun e w' => e = .returned (.tuple #[]) ∧ w = w' := by
 have hs0 : (a0.toList == ([] : List UInt8)) = true := by rw [h0]; rfl
 go_enter Tryz.func35, Tryz.ntmps35
 go_wp2
 refine bodyPost_ret (results_none rfl _ _ _) rfl ⟨rfl, rfl⟩
def mJ (k : Nat) (a0 : ByteArray) : Option (List Int × List (List Int) × Int) :=
 if a0.toList = [] then some ([], [], 0)
 else (pg.f k a0).bind fun t => if t.1.length ≤ 3000 ∧ t.2.1.length ≤ 1000 ∧ (∀ l ∈ t.2.1, l.length ≤ 3000) ∧ ji t.1 t.2.1 = (a0, 0) then some (t.1, t.2.1, 0) else none
theorem lad {W : World} {k : Nat} {o : Obj} (h : k = W.heap.size) : (W.alloc o).heap[k]? = some o := by
 subst h
 exact pV _ _
theorem jL {W : World} {k : Nat} {o p : Obj} (h : k < W.heap.size) (h1 : W.heap[k]? = some p) : (W.alloc o).heap[k]? = some p := (Below.heap_alloc W o k h).trans h1
def Read (w : World) (sb rb gb wb : Nat) (a0 : ByteArray) (r1 : List Int) (r2 : List (List Int)) (w' : World) : Prop :=
 w'.heap[wb]? = some (.cells #[.bool false] 4 (0, 0)) ∧ ∃ v0_ v1_ : Value, w'.heap[gb]? = some (.cells #[v0_, v1_] 26 (0, 0)) ∧ w'.heap[rb]? = some (.cells #[.slice none 0 0, .slice none 0 0] 26 (0, 0)) ∧ w'.heap[sb]? = some (.cells #[.string a0] 9 (0, 0)) ∧
  Kd.R (Kd.int .i64) 3 w' w.heap.size (fun _ => True) v0_ r1 ∧ Kd.S (Kd.slice 3 (Kd.int .i64)) 23 w' w.heap.size (fun k_ => some k_ ≠ (v0_ : Value).ownBlock) v1_ r2 ∧ Below w.heap.size w w'
theorem nas {a : ByteArray} (h : a.toList = []) : a = ⟨#[]⟩ := by
 rw [Lib.toList_data] at h
 cases a with
 | mk d => simp at h; rw [h]
theorem sW {k : Nat} {a0 : ByteArray} {r1 : List Int} {r2 : List (List Int)} {r3 : Int} (h : mJ k a0 = some (r1, r2, r3)) :
  r3 = 0 ∧ r1.length ≤ 3000 ∧ r2.length ≤ 1000 ∧ (∀ l ∈ r2, l.length ≤ 3000) ∧ ji r1 r2 = (a0, 0) ∧ (a0.toList = [] ∧ r1 = [] ∧ r2 = [] ∨ ¬ a0.toList = [] ∧ ∃ r4, pg.f k a0 = some (r1, r2, r4)) := by
 unfold mJ at h
 by_cases h0 : a0.toList = []
 ·rw [if_pos h0] at h
  cases h
  refine ⟨rfl, by decide, by decide, (fun l hl => by cases hl), ?_, .inl ⟨h0, rfl, rfl⟩⟩
  rw [nas h0]
  decide
 ·rw [if_neg h0] at h
  obtain ⟨⟨t1, t2, t3⟩, h1, h2⟩ := Option.bind_eq_some_iff.1 h
  by_cases h3 : t1.length ≤ 3000 ∧ t2.length ≤ 1000 ∧ (∀ l ∈ t2, l.length ≤ 3000) ∧ ji t1 t2 = (a0, 0)
  ·rw [if_pos h3] at h2
   cases h2
   exact ⟨rfl, h3.1, h3.2.1, h3.2.2.1, h3.2.2.2, .inr ⟨h0, t3, h1⟩⟩
  ·rw [if_neg h3] at h2; cases h2
theorem j6 (k : Nat) (a0 : ByteArray) (r1 : List Int) (r2 : List (List Int)) (r3 : Int) (w w1 : World) (G : Gl w) (h : mJ k a0 = some (r1, r2, r3)) (hB1 : Below w.heap.size w w1) (sb rb gb wb : Nat)
  (BK : w1.heap[gb]? = some (.cells #[.slice none 0 0, .slice none 0 0] 26 (0, 0))) (GE : w.heap.size ≤ gb) (BK6 : w1.heap[wb]? = some (.cells #[.bool false] 4 (0, 0))) (GE6 : w.heap.size ≤ wb) (BK7 : w1.heap[rb]? = some (.cells #[.slice none 0 0, .slice none 0 0] 26 (0, 0))) (GE7 : w.heap.size ≤ rb)
  (BK8 : w1.heap[sb]? = some (.cells #[.string a0] 9 (0, 0))) (GE8 : w.heap.size ≤ sb) (N56 : gb ≠ wb) (N57 : gb ≠ rb) (N58 : gb ≠ sb) (N67 : wb ≠ rb) (N68 : wb ≠ sb) (N78 : rb ≠ sb) :
  Calls Tryz.prog 35 #[.pointer (some ⟨sb, 0, none⟩), .pointer (some ⟨gb, 0, none⟩)] w1 fun e w' => e = .returned (.tuple #[]) ∧ Read w sb rb gb wb a0 r1 r2 w' ∧ w'.heap[wb]? = some (.cells #[.bool false] 4 (0, 0)) := by
 obtain ⟨_, _, _, _, _, h1 | h1⟩ := sW h
 ·obtain ⟨h2, rfl, rfl⟩ := h1
  refine (yag sb gb a0 w1 ((qd BK8 0).trans rfl) h2).mono ?_
  rintro e w' ⟨rfl, rfl⟩
  exact ⟨rfl, ⟨BK6, _, _, BK, BK7, BK8, Kd.pQ _ _ _ _ _, Kd.eab _ _ _ _ _, hB1⟩, BK6⟩
 ·obtain ⟨h2, r4, h3⟩ := h1
  refine (pg.calls k a0 gb wb rb sb r1 r2 r4 w w1 G h2 BK GE BK6 GE6 BK7 GE7 BK8 GE8 N56 N57 N58 N67 N68 N78 hB1 h3).mono ?_
  rintro e w' ⟨rfl, v0, v1, g1, g2, g3, g4, g5, g6, g7⟩
  exact ⟨rfl, ⟨g2, v0, v1, g1, g3, g4, g5, g6, g7⟩, g2⟩
set_option maxHeartbeats 4000000 in
set_option maxRecDepth 100000 in
theorem bR (k : Nat) (a0 : ByteArray) (r1 : List Int) (r2 : List (List Int)) (r3 : Int) (w : World) (G : Gl w) (h : mJ k a0 = some (r1, r2, r3)) :
  Calls Tryz.prog 7 #[.string a0] w fun e w' => ∃ v0_ v1_ : Value, e = .returned (.tuple #[.agg #[v0_, v1_], .int .i64 r3]) ∧ Kd.R (Kd.int .i64) 3 w' w.heap.size (fun _ => True) v0_ r1 ∧ Kd.S (Kd.slice 3 (Kd.int .i64)) 23 w' w.heap.size (fun k_ => some k_ ≠ (v0_ : Value).ownBlock) v1_ r2 ∧ Below w.heap.size w w' := by
 have HG := aa.mk G
 have HH := aa.mk h
 clear G h
 go_enter Tryz.func7, Tryz.ntmps7
 go_wp2_with fail
 refine (jae _ _ (Read w w.heap.size (w.heap.size + 1) (w.heap.size + 1 + 1) (w.heap.size + 1 + 1 + 1) a0 r1 r2) ?hc).mono ?_
 case hc =>
  have e3 : (((w.alloc (.cells #[.string a0] 9 (0, 0))).alloc (.cells #[.slice none 0 0, .slice none 0 0] 26 (0, 0))).alloc (.cells #[.slice none 0 0, .slice none 0 0] 26 (0, 0))).heap.size = w.heap.size + 1 + 1 + 1 := by simp
  rw [e3]
  refine j6 k a0 r1 r2 r3 w _ HG.out HH.out (za (za (za (za (Below.refl _ _) _) _) _) _) w.heap.size (w.heap.size + 1) (w.heap.size + 1 + 1) (w.heap.size + 1 + 1 + 1) ?_ (by omega) ?_ (by omega) ?_ (by omega) ?_ (by omega) (by omega) (by omega) (by omega) (by omega) (by omega) (by omega)
  ·exact jL (by simp; try omega) (lad (by simp))
  ·exact lad (by simp)
  ·exact jL (by simp; try omega) (jL (by simp; try omega) (lad (by simp)))
  ·exact jL (by simp; try omega) (jL (by simp; try omega) (jL (by simp; try omega) (lad rfl)))
 rintro e w5 ⟨rfl, w2, hR, rfl⟩
 have e3 : (((w.alloc (.cells #[.string a0] 9 (0, 0))).alloc (.cells #[.slice none 0 0, .slice none 0 0] 26 (0, 0))).alloc (.cells #[.slice none 0 0, .slice none 0 0] 26 (0, 0))).heap.size = w.heap.size + 1 + 1 + 1 := by simp
 rw [e3]
 obtain ⟨hw, v0, v1, hg, hr, hs, hR0, hS1, hB⟩ := hR
 obtain ⟨A0, c0, e0⟩ := Kd.ay hR0
 subst e0
 obtain ⟨A1, c1, e1⟩ := Kd.jB hS1
 subst e1
 obtain ⟨w5, hw5⟩ : ∃ w5, w5 = w2.setCell ⟨w.heap.size + 1 + 1 + 1, 0, none⟩ (.bool true) := ⟨_, rfl⟩
 have BK := aa.mk (show w5.heap[w.heap.size + 1 + 1]? = some (.cells #[.slice A0 r1.length c0, .slice A1 r2.length c1] 26 (0, 0)) from by rw [hw5]; exact zm hg (by show _ ≠ w.heap.size + 1 + 1 + 1; omega) _)
 have BR := aa.mk (show w5.heap[w.heap.size + 1]? = some (.cells #[.slice none 0 0, .slice none 0 0] 26 (0, 0)) from by rw [hw5]; exact zm hr (by show _ ≠ w.heap.size + 1 + 1 + 1; omega) _)
 have BS := aa.mk (show w5.heap[w.heap.size]? = some (.cells #[.string a0] 9 (0, 0)) from by rw [hw5]; exact zm hs (by show _ ≠ w.heap.size + 1 + 1 + 1; omega) _)
 have HB := aa.mk (show Below w.heap.size w w5 from by rw [hw5]; exact hB.setCell (p := ⟨w.heap.size + 1 + 1 + 1, 0, none⟩) (by show _ ≤ w.heap.size + 1 + 1 + 1; omega) _)
 have R5 := aa.mk (show Kd.R (Kd.int .i64) 3 w5 w.heap.size (fun _ => True) (.slice A0 r1.length c0) r1 from by rw [hw5]; exact Kd.jk (Kd.mr (p := ⟨w.heap.size + 1 + 1 + 1, 0, none⟩) (Kd.yo hR0 hw (by decide)) (fun _ hk => hk.2) _) (fun _ _ => trivial))
 have S5 := aa.mk (show Kd.S (Kd.slice 3 (Kd.int .i64)) 23 w5 w.heap.size (fun k_ => some k_ ≠ (Value.slice A0 r1.length c0).ownBlock) (.slice A1 r2.length c1) r2 from by rw [hw5]; exact Kd.xn (Kd.jw (p := ⟨w.heap.size + 1 + 1 + 1, 0, none⟩) (Kd.xw hS1 hw (by decide)) (fun _ hk => hk.2) _) (fun _ hk => hk.1))
 clear hw hg hr hs hR0 hS1 hB e3
 rw [← hw5]
 clear hw5
 obtain ⟨h3, b1, b2, b3, hW, _⟩ := sW HH.out
 subst h3
 have HW := aa.mk hW
 have B1 := aa.mk b1
 have B2 := aa.mk b2
 have B3 := aa.mk b3
 clear hW b1 b2 b3
 have hz0 := (qd BK.out 0).trans rfl
 have hz1 := (qd BK.out 1).trans rfl
 go_wp2_with fail
 refine (lF A0 c0 r1 A1 c1 r2 w5 (HG.out.below HB.out) (Kd.jl R5.out).2.2 (Kd.jl R5.out).2.1 (Kd.ko S5.out).2.2 (Kd.ko S5.out).2.1 B1.out B2.out B3.out).mono ?_
 rw [HW.out]
 rintro e w6 ⟨rfl, hb6⟩
 have BK6 := aa.mk (lg BK.out hb6)
 have BR6 := aa.mk (lg BR.out hb6)
 have BS6 := aa.mk (lg BS.out hb6)
 have R6 := aa.mk (Kd.qj R5.out hb6)
 have S6 := aa.mk (Kd.vk S5.out hb6)
 have HB6 := aa.mk (yf HB.out hb6)
 clear hb6 hz0 hz1
 have hz0 : w6.cell? ⟨w.heap.size + 1 + 1, 0, none⟩ = some (.slice A0 r1.length c0) := (qd BK6.out 0).trans rfl
 have hz1 : w6.cell? ⟨w.heap.size + 1 + 1, 1, none⟩ = some (.slice A1 r2.length c1) := (qd BK6.out 1).trans rfl
 have hz2 : w6.cell? ⟨w.heap.size, 0, none⟩ = some (.string a0) := (qd BS6.out 0).trans rfl
 have hz3 : w6.cell? ⟨w.heap.size + 1, 0, none⟩ = some (.slice none 0 0) := (qd BR6.out 0).trans rfl
 have hz4 : w6.cell? ⟨w.heap.size + 1, 1, none⟩ = some (.slice none 0 0) := (qd BR6.out 1).trans rfl
 have hf0 := yc BR6.out 0
 have hf1 := yc BR6.out 1
 go_wp2
 have F1 := aa.mk (gu (gu (cs := #[.slice none 0 0, .slice none 0 0]) BR6.out 0 (.slice A0 r1.length c0) rfl) 1 (.slice A1 r2.length c1) rfl)
 refine bodyPost_ret (iai rfl _ _ (w.heap.size + 1) 26 #[.slice A0 r1.length c0, .slice A1 r2.length c1] (0, 0) _ rfl F1.out Tryz.underlying26 rfl (by kernel_rfl)) rfl ?_
 refine ⟨_, _, rfl, ?_, ?_, ?_⟩
 ·have h1 := Kd.mr (p := ⟨w.heap.size + 1, 0, none⟩) (Kd.yo R6.out BR6.out (by decide)) (fun _ hk => hk.2) (.slice A0 r1.length c0)
  exact Kd.jk (Kd.mr (p := ⟨w.heap.size + 1, 1, none⟩) h1 (fun _ hk => hk.2) (.slice A1 r2.length c1)) (fun _ _ => trivial)
 ·have h1 := Kd.jw (p := ⟨w.heap.size + 1, 0, none⟩) (Kd.xw S6.out BR6.out (by decide)) (fun _ hk => hk.2) (.slice A0 r1.length c0)
  exact Kd.xn (Kd.jw (p := ⟨w.heap.size + 1, 1, none⟩) h1 (fun _ hk => hk.2) (.slice A1 r2.length c1)) (fun _ hk => hk.1)
 ·exact (HB6.out.setCell (p := ⟨w.heap.size + 1, 0, none⟩) (Nat.le_succ _) _).setCell (p := ⟨w.heap.size + 1, 1, none⟩) (Nat.le_succ _) _
end Go.Proofs.YtcbeheaiblgpfaaGreatDoor.Ask
end
