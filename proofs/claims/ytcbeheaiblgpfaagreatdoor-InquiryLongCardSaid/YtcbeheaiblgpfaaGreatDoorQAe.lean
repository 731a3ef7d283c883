/- The law InquiryLong: part Ae. -/
import Derived.Test.YtcbeheaiblgpfaaGreatDoorQAd
set_option linter.unusedVariables false
set_option linter.unusedSimpArgs false
noncomputable section
namespace Go.Proofs.YtcbeheaiblgpfaaGreatDoor.Ask
open Go.RowKit Go.Proofs.YtcbeheaiblgpfaaGreatDoorW.PrintWords Go.Proofs.YtcbeheaiblgpfaaGreatDoorW.PrintLast Go.Proofs.YtcbeheaiblgpfaaGreatDoorW.PrintMore
mutual
def qa.j0 : Nat → Bool → List Int → List (List Int) → Option (ByteArray × Int)
 | 0, _, _, _ => none
 | k + 1, x18, x125000, x125001 => if x18 = true then (some ((⟨#[]⟩ : ByteArray), 2)) else (qa.l0 k 0 x125000 x125001)
def qa.l0 : Nat → Int → List Int → List (List Int) → Option (ByteArray × Int)
 | 0, _, _, _ => none
 | k + 1, x4, x125000, x125001 => if x4 < (x125001.length : Int) then (if 0 ≤ x4 then (if ((ak x125001 x4).length : Int) > 2000 then (some ((⟨#[]⟩ : ByteArray), 2)) else (qa.l0 k (wrap64 (x4 + 1)) x125000 x125001)) else (none)) else ((bf.f k x125000).bind fun t126 => (qa.l1 k t126 (⟨#[]⟩ : ByteArray) 0 x125000 x125001))
def qa.j3 : Nat → Bool → ByteArray → List Int → List (List Int) → Option (ByteArray × Int)
 | 0, _, _, _, _ => none
 | k + 1, x5, x6, x125000, x125001 => qa.l2 k x5 x6 0 x125000 x125001
def qa.l2 : Nat → Bool → ByteArray → Int → List Int → List (List Int) → Option (ByteArray × Int)
 | 0, _, _, _, _, _ => none
 | k + 1, x5, x6, x8, x125000, x125001 => if x8 < (x125001.length : Int) then (if x5 = true then (if 0 ≤ x8 then ((bf.f k (ak x125001 x8)).bind fun t133 => (if t133 = true then (if x6.size + 2 ≤ 9223372036854775807 then ((zf.f k (x6 ++ (⟨#[32, 124]⟩ : ByteArray)) (ak x125001 x8)).bind fun t135 => (qa.l2 k t133 t135 (wrap64 (x8 + 1)) x125000 x125001)) else (none)) else (qa.l2 k t133 x6 (wrap64 (x8 + 1)) x125000 x125001))) else (none)) else (qa.l2 k false x6 (wrap64 (x8 + 1)) x125000 x125001)) else (if x5 = true then (if x6.toList = ([] : List UInt8) then (some ((⟨#[]⟩ : ByteArray), 0)) else (if 1 ≤ (x6.size : Int) then (some (x6.extract 1 x6.size, 0)) else (none))) else (some ((⟨#[]⟩ : ByteArray), 1)))
def qa.l1 : Nat → Bool → ByteArray → Int → List Int → List (List Int) → Option (ByteArray × Int)
 | 0, _, _, _, _, _ => none
 | k + 1, x5, x6, x7, x125000, x125001 => if x7 < (x125000.length : Int) then (if x5 = true then (if 0 ≤ x7 then ((zf.f k x6 (([rd x125000 x7] : List Int))).bind fun t131 => (qa.l1 k x5 t131 (wrap64 (x7 + 1)) x125000 x125001)) else (none)) else (qa.j3 k x5 x6 x125000 x125001)) else (qa.j3 k x5 x6 x125000 x125001)
end
def qa.f (k : Nat) (l0_0 : List Int) (l0_1 : List (List Int)) : Option (ByteArray × Int) := if (l0_0.length : Int) > 2000 then (qa.j0 k true l0_0 l0_1) else (qa.j0 k (decide ((l0_1.length : Int) > 400)) l0_0 l0_1)
set_option maxHeartbeats 8000000 in
set_option maxRecDepth 100000 in
theorem qa.calls (k : Nat) (A0_0 : Option Addr) (c0_0 : Nat) (l0_0 : List Int) (A0_1 : Option Addr) (c0_1 : Nat) (l0_1 : List (List Int)) (r1 : ByteArray) (r2 : Int) (w : World) (hr0_0 : Kd.C (Kd.int .i64) w A0_0 l0_0.length l0_0) (hc0_0 : l0_0.length ≤ c0_0) (hr0_1 : Kd.C (Kd.slice 3 (Kd.int .i64)) w A0_1 l0_1.length l0_1) (hc0_1 : l0_1.length ≤ c0_1) (h : qa.f k l0_0 l0_1 = some (r1, r2)) :
  Calls Tryz.prog 6 #[.agg #[.slice A0_0 l0_0.length c0_0, .slice A0_1 l0_1.length c0_1]] w fun e w' => e = .returned (.tuple #[.string r1, .int .i64 r2]) ∧ Below w.heap.size w w' := by
 have hu26 := Tryz.underlying26
 have HR0_0 := aa.mk hr0_0
 have HC0_0 := aa.mk hc0_0
 clear hr0_0 hc0_0
 have HR0_1 := aa.mk hr0_1
 have HC0_1 := aa.mk hc0_1
 clear hr0_1 hc0_1
 have HB := aa.mk (Below.refl w.heap.size w)
 have H : (if (l0_0.length : Int) > 2000 then (qa.j0 k true l0_0 l0_1) else (qa.j0 k (decide ((l0_1.length : Int) > 400)) l0_0 l0_1)) = some (r1, r2) := h
 clear h
 have HC2 := aa.mk H
 clear H
 go_enter Tryz.func6, Tryz.ntmps6
 go_upto_region 1 with (first | ((with_reducible refine jv (N := 1) rfl ?_); (try (refine bY (by rfl) ?_; dsimp only)); refine lv ?hg (N := 1) ?hd (cs := #[.slice A0_0 l0_0.length c0_0, .slice A0_1 l0_1.length c0_1]) (t := 26) ?hr ?_; (case hd => rfl); (case hg => rfl); (case hr => first | (go_simp; done) | (go_simp; rfl)); intro gb124 hg w3 hbox hb; have n0_ := aa.mk (yf (by repeat (first | (with_reducible first | exact HB.out | apply za | apply ma | apply ib) | exact HB.out)) hb); have n1_ := aa.mk (hbox); have n2_ := aa.mk ((by rw [hg]; exact (qf (by repeat (first | (with_reducible first | exact HB.out | apply za | apply ma | apply ib) | exact HB.out))) : w.heap.size ≤ gb124)); have n3_ := aa.mk ((by rw [hg]; exact (qf (by repeat (first | (with_reducible first | exact HB.out | apply za | apply ma | apply ib) | exact HB.out))) : w.heap.size ≤ gb124)); clear HB; have HB := n0_; have BK124 := n1_; have GW124 := n2_; have GE124 := n3_; clear n0_ n1_ n2_ n3_; clear hb hbox hg))
 (try simp only [Act.put, List.setIfInBounds_toArray, List.set_cons_zero, List.set_cons_succ])
 go_cut [18] (fun v18 wc => ∃ (kq : Nat) (x18_1 : Bool), v18 = .bool x18_1 ∧ aa (qa.j0 kq x18_1 l0_0 l0_1 = some (r1, r2)) ∧ aa (kq ≤ k) ∧ aa (wc.heap[gb124]? = some (.cells #[(.slice A0_0 l0_0.length c0_0), (.slice A0_1 l0_1.length c0_1)] 26 (0, 0))) ∧ aa (Below w.heap.size w wc))
 case first =>
  have H := HC2.out
  clear HC2
  by_cases c4 : (l0_0.length : Int) > 2000
  ·rw [if_pos c4] at H
   have c4b0 : decide (2000 < (l0_0.length : Int)) = true := decide_eq_true c4
   have c4b1 : decide (2000 < l0_0.length) = true := decide_eq_true (by omega)
   clear c4
   (first | rw [c4b0] | (simp only [wy, i32_w]; rw [c4b0]) | skip)
   have H' := aa.mk H
   clear H
   have hcz5_0 : w3.cell? ⟨gb124, 0, none⟩ = some (.slice A0_0 l0_0.length c0_0) := (qd BK124.out 0).trans rfl
   have hcz5_1 : w3.cell? ⟨gb124, 1, none⟩ = some (.slice A0_1 l0_1.length c0_1) := (qd BK124.out 1).trans rfl
   have hfz5_0 := yc BK124.out 0
   have hfz5_1 := yc BK124.out 1
   go_wp2
   go_meet
   case rel => exact ⟨_, (true), (by first | rfl | (simp; done) | (simp [*]; done)), H', ⟨by first | omega | exact Nat.le_refl _⟩, ⟨by (with_reducible repeat (first | refine jc ?_ _ | refine qc ?_ | refine ic ?_ _)); exact BK124.out⟩, ⟨by repeat (first | (with_reducible first | exact HB.out | apply za | apply ma | apply ib | refine jb ?_ GE124.out) | exact HB.out)⟩⟩
  ·rw [if_neg c4] at H
   have c4b0 : decide (2000 < (l0_0.length : Int)) = false := decide_eq_false c4
   have c4b1 : decide (2000 < l0_0.length) = false := decide_eq_false (by omega)
   clear c4
   (first | rw [c4b0] | (simp only [wy, i32_w]; rw [c4b0]) | skip)
   have H' := aa.mk H
   clear H
   have hcz6_0 : w3.cell? ⟨gb124, 0, none⟩ = some (.slice A0_0 l0_0.length c0_0) := (qd BK124.out 0).trans rfl
   have hcz6_1 : w3.cell? ⟨gb124, 1, none⟩ = some (.slice A0_1 l0_1.length c0_1) := (qd BK124.out 1).trans rfl
   have hfz6_0 := yc BK124.out 0
   have hfz6_1 := yc BK124.out 1
   go_wp2
   go_meet
   case rel => exact ⟨_, (decide ((l0_1.length : Int) > 400)), (by first | rfl | (simp; done) | (simp [*]; done)), H', ⟨by first | omega | exact Nat.le_refl _⟩, ⟨by (with_reducible repeat (first | refine jc ?_ _ | refine qc ?_ | refine ic ?_ _)); exact BK124.out⟩, ⟨by repeat (first | (with_reducible first | exact HB.out | apply za | apply ma | apply ib | refine jb ?_ GE124.out) | exact HB.out)⟩⟩
 case rest =>
  clear HC2
  obtain ⟨kq, x18_1, rfl, HA, HJ1, BK124, HB⟩ := hcut
  cases kq with
  | zero => exact absurd HA.out (by simp [qa.j0])
  | succ kj1 =>
   have H := HA.out
   clear HA
   simp only [qa.j0] at H
   by_cases c7 : x18_1 = true
   ·subst c7
    have H1 : (some ((⟨#[]⟩ : ByteArray), 2)) = some (r1, r2) := by rw [if_pos rfl] at H; exact H
    clear H
    have H := H1
    clear H1
    simp only [Option.some.injEq, Prod.mk.injEq] at H
    obtain ⟨rfl, rfl⟩ := H
    go_wp2
    go_ret2
    exact ⟨by first | rfl | (simp [jh, dh] <;> rfl) | (simp [*, jh, dh] <;> rfl), by repeat (first | (with_reducible first | exact HB.out | apply za | apply ma | apply ib | refine jb ?_ GE124.out) | exact HB.out)⟩
   ·replace c7 := Bool.eq_false_iff.mpr c7
    subst c7
    have H1 : (qa.l0 kj1 0 l0_0 l0_1) = some (r1, r2) := by rw [if_neg (show ¬ (false = true) by decide)] at H; exact H
    clear H
    have H := H1
    clear H1
    have H' := aa.mk H
    clear H
    go_wp2
    go_loopg [4] kj1 (fun kq v4 w' => ∃ (x4_2 : Int), v4 = .int .i64 x4_2 ∧ aa (qa.l0 kq x4_2 l0_0 l0_1 = some (r1, r2)) ∧ aa (kq ≤ kj1) ∧ aa (w'.heap[gb124]? = some (.cells #[(.slice A0_0 l0_0.length c0_0), (.slice A0_1 l0_1.length c0_1)] 26 (0, 0))) ∧ aa (Below w.heap.size w w'))
    case atStart => exact ⟨(0), (by first | rfl | (simp; done) | (simp [*]; done)), H', ⟨Nat.le_refl _⟩, ⟨by (with_reducible repeat (first | refine jc ?_ _ | refine qc ?_ | refine ic ?_ _)); exact BK124.out⟩, ⟨by repeat (first | (with_reducible first | exact HB.out | apply za | apply ma | apply ib | refine jb ?_ GE124.out) | exact HB.out)⟩⟩
    case round =>
     clear H'
     obtain ⟨x4_2, rfl, HA, HK2, BK124, HB⟩ := hrel
     cases gk with
     | zero => exact absurd HA.out (by simp [qa.l0])
     | succ k2 =>
      have H := HA.out
      clear HA
      simp only [qa.l0] at H
      by_cases c8 : x4_2 < (l0_1.length : Int)
      ·rw [if_pos c8] at H
       have c8b0 : decide (x4_2 < (l0_1.length : Int)) = true := decide_eq_true c8
       clear c8
       by_cases c9 : 0 ≤ x4_2
       ·rw [if_pos c9] at H
        have c9b0 : decide (0 ≤ x4_2) = true := decide_eq_true c9
        clear c9
        by_cases c10 : ((ak l0_1 x4_2).length : Int) > 2000
        ·rw [if_pos c10] at H
         have c10b0 : decide (2000 < ((ak l0_1 x4_2).length : Int)) = true := decide_eq_true c10
         have c10b1 : decide (2000 < (ak l0_1 x4_2).length) = true := decide_eq_true (by omega)
         clear c10
         simp only [Option.some.injEq, Prod.mk.injEq] at H
         obtain ⟨rfl, rfl⟩ := H
         have hcz11_0 : wr.cell? ⟨gb124, 0, none⟩ = some (.slice A0_0 l0_0.length c0_0) := (qd BK124.out 0).trans rfl
         have hcz11_1 : wr.cell? ⟨gb124, 1, none⟩ = some (.slice A0_1 l0_1.length c0_1) := (qd BK124.out 1).trans rfl
         have hfz11_0 := yc BK124.out 0
         have hfz11_1 := yc BK124.out 1
         have p125 : 0 ≤ (x4_2 : Int) := of_decide_eq_true (by first | (with_reducible assumption) | assumption)
         have q125 : x4_2 < (l0_1.length : Int) := of_decide_eq_true (by first | (with_reducible assumption) | assumption)
         obtain ⟨ad125, A125_0, c125_0, e125, hx125_0, hl125_0, hi125_0⟩ := iM HR0_1.out x4_2 p125 q125
         cases e125
         replace hx125_0 := (HB.out.cell (World.block_lt_of_cell? w _ hx125_0)).trans hx125_0
         have HR125_0 := aa.mk hi125_0
         have HC125_0 := aa.mk hl125_0
         clear hi125_0 hl125_0
         replace p125 := eq_true p125
         replace q125 := eq_true q125
         go_wp2
         go_ret2
         exact ⟨by first | rfl | (simp [jh, dh] <;> rfl) | (simp [*, jh, dh] <;> rfl), by repeat (first | (with_reducible first | exact HB.out | apply za | apply ma | apply ib | refine jb ?_ GE124.out) | exact HB.out)⟩
        ·rw [if_neg c10] at H
         have c10b0 : decide (2000 < ((ak l0_1 x4_2).length : Int)) = false := decide_eq_false c10
         have c10b1 : decide (2000 < (ak l0_1 x4_2).length) = false := decide_eq_false (by omega)
         clear c10
         have H' := aa.mk H
         clear H
         have hcz12_0 : wr.cell? ⟨gb124, 0, none⟩ = some (.slice A0_0 l0_0.length c0_0) := (qd BK124.out 0).trans rfl
         have hcz12_1 : wr.cell? ⟨gb124, 1, none⟩ = some (.slice A0_1 l0_1.length c0_1) := (qd BK124.out 1).trans rfl
         have hfz12_0 := yc BK124.out 0
         have hfz12_1 := yc BK124.out 1
         have p125 : 0 ≤ (x4_2 : Int) := of_decide_eq_true (by first | (with_reducible assumption) | assumption)
         have q125 : x4_2 < (l0_1.length : Int) := of_decide_eq_true (by first | (with_reducible assumption) | assumption)
         obtain ⟨ad125, A125_0, c125_0, e125, hx125_0, hl125_0, hi125_0⟩ := iM HR0_1.out x4_2 p125 q125
         cases e125
         replace hx125_0 := (HB.out.cell (World.block_lt_of_cell? w _ hx125_0)).trans hx125_0
         have HR125_0 := aa.mk hi125_0
         have HC125_0 := aa.mk hl125_0
         clear hi125_0 hl125_0
         replace p125 := eq_true p125
         replace q125 := eq_true q125
         go_wp2
         go_roundg k2
         case measure => have := HJ1.out; have := HK2.out; omega
         case rel => exact ⟨(wrap64 (x4_2 + 1)), (by first | rfl | (simp; done) | (simp [*]; done)), H', ⟨by have := HJ1.out; have := HK2.out; omega⟩, ⟨by (with_reducible repeat (first | refine jc ?_ _ | refine qc ?_ | refine ic ?_ _)); exact BK124.out⟩, ⟨by repeat (first | (with_reducible first | exact HB.out | apply za | apply ma | apply ib | refine jb ?_ GE124.out) | exact HB.out)⟩⟩
       ·rw [if_neg c9] at H
        exact absurd H (by simp)
      ·rw [if_neg c8] at H
       have c8b0 : decide (x4_2 < (l0_1.length : Int)) = false := decide_eq_false c8
       clear c8
       replace H := Option.bind_eq_some_iff.mp H
       obtain ⟨t126, A130, H⟩ := H
       replace H : (qa.l1 k2 t126 (⟨#[]⟩ : ByteArray) 0 l0_0 l0_1) = some (r1, r2) := H
       have A13 := aa.mk A130
       clear A130
       have HC14 := aa.mk H
       clear H
       have hcz15_0 : wr.cell? ⟨gb124, 0, none⟩ = some (.slice A0_0 l0_0.length c0_0) := (qd BK124.out 0).trans rfl
       have hcz15_1 : wr.cell? ⟨gb124, 1, none⟩ = some (.slice A0_1 l0_1.length c0_1) := (qd BK124.out 1).trans rfl
       have hfz15_0 := yc BK124.out 0
       have hfz15_1 := yc BK124.out 1
       go_upto_block 2 with (first | ((with_reducible refine lh (f := 32) rfl ?_); refine oo (some 35) rfl rfl Tryz.func32 (by kernel_rfl) rfl #[.slice A0_0 l0_0.length c0_0] rfl (by (try simp only [List.map_toArray, List.map_cons, List.map_nil]); first | done | rfl | (simp only [List.length_drop, List.length_take]; rfl)) ?_; (with_reducible refine (bf.calls k2 _ _ l0_0 t126 _ ?side1 ?side2 A13.out).mono ?_); (case side1 => repeat (first | exact (Kd.zw HR0_0.out HB.out) | (with_reducible refine Kd.C_alloc ?_ _) | (with_reducible refine Kd.C_drewN ?_ _) | (with_reducible refine Kd.C_drew ?_))); (case side2 => exact HC0_0.out); rintro e w' ⟨rfl, ⟨nd, rfl⟩⟩; refine ⟨_, rfl, ?_⟩))
       (try simp only [Act.put, List.setIfInBounds_toArray, List.set_cons_zero, List.set_cons_succ])
       go_cut [6] (fun v6 wc => ∃ (kq : Nat) (x6_13 : ByteArray), v6 = .string x6_13 ∧ aa (qa.j3 kq t126 x6_13 l0_0 l0_1 = some (r1, r2)) ∧ aa (kq ≤ k2) ∧ aa (wc.heap[gb124]? = some (.cells #[(.slice A0_0 l0_0.length c0_0), (.slice A0_1 l0_1.length c0_1)] 26 (0, 0))) ∧ aa (Below w.heap.size w wc))
       case first =>
        have H := HC14.out
        clear HC14
        have H' := aa.mk H
        clear H
        go_wp2
        go_loopg [6, 7] k2 (fun kq v6 v7 w' => ∃ (x6_3 : ByteArray) (x7_3 : Int), v6 = .string x6_3 ∧ v7 = .int .i64 x7_3 ∧ aa (qa.l1 kq t126 x6_3 x7_3 l0_0 l0_1 = some (r1, r2)) ∧ aa (kq ≤ k2) ∧ aa (w'.heap[gb124]? = some (.cells #[(.slice A0_0 l0_0.length c0_0), (.slice A0_1 l0_1.length c0_1)] 26 (0, 0))) ∧ aa (Below w.heap.size w w'))
        case atStart => exact ⟨((⟨#[]⟩ : ByteArray)), (0), (by first | rfl | (simp; done) | (simp [*]; done)), (by first | rfl | (simp; done) | (simp [*]; done)), H', ⟨Nat.le_refl _⟩, ⟨by (with_reducible repeat (first | refine jc ?_ _ | refine qc ?_ | refine ic ?_ _)); exact BK124.out⟩, ⟨by repeat (first | (with_reducible first | exact HB.out | apply za | apply ma | apply ib | refine jb ?_ GE124.out) | exact HB.out)⟩⟩
        case round =>
         clear H'
         obtain ⟨x6_3, x7_3, rfl, rfl, HA, HK3, BK124, HB⟩ := hrel
         cases gk with
         | zero => exact absurd HA.out (by simp [qa.l1])
         | succ k3 =>
          have H := HA.out
          clear HA
          simp only [qa.l1] at H
          by_cases c16 : x7_3 < (l0_0.length : Int)
          ·rw [if_pos c16] at H
           have c16b0 : decide (x7_3 < (l0_0.length : Int)) = true := decide_eq_true c16
           clear c16
           (first | rw [c16b0] | (simp only [wy, i32_w]; rw [c16b0]) | skip)
           by_cases c17 : t126 = true
           ·subst c17
            have H1 : (if 0 ≤ x7_3 then ((zf.f k3 x6_3 (([rd l0_0 x7_3] : List Int))).bind fun t131 => (qa.l1 k3 true t131 (wrap64 (x7_3 + 1)) l0_0 l0_1)) else (none)) = some (r1, r2) := by rw [if_pos rfl] at H; exact H
            clear H
            have H := H1
            clear H1
            by_cases c18 : 0 ≤ x7_3
            ·rw [if_pos c18] at H
             have c18b0 : decide (0 ≤ x7_3) = true := decide_eq_true c18
             clear c18
             obtain ⟨y128, hy128⟩ : ∃ y_ : List Int, y_ = (([rd l0_0 x7_3] : List Int)) := ⟨_, rfl⟩
             replace H : ((zf.f k3 x6_3 y128).bind fun t131 => (qa.l1 k3 true t131 (wrap64 (x7_3 + 1)) l0_0 l0_1)) = some (r1, r2) := by first | (rw [hy128]; with_reducible exact H) | (have H2_ := (Option.bind_some _ _).symm.trans H; rw [hy128]; with_reducible exact H2_) | (have H2_ := (Option.bind_some _ _).symm.trans H; with_reducible exact H2_) | with_reducible exact H | (rw [hy128]; exact H) | exact H
             have Ny128 := aa.mk hy128
             clear hy128
             replace H := Option.bind_eq_some_iff.mp H
             obtain ⟨t131, A190, H⟩ := H
             replace H : (qa.l1 k3 true t131 (wrap64 (x7_3 + 1)) l0_0 l0_1) = some (r1, r2) := H
             have A19 := aa.mk A190
             clear A190
             have H' := aa.mk H
             clear H
             have hcz20_0 : wr.cell? ⟨gb124, 0, none⟩ = some (.slice A0_0 l0_0.length c0_0) := (qd BK124.out 0).trans rfl
             have hcz20_1 : wr.cell? ⟨gb124, 1, none⟩ = some (.slice A0_1 l0_1.length c0_1) := (qd BK124.out 1).trans rfl
             have hfz20_0 := yc BK124.out 0
             have hfz20_1 := yc BK124.out 1
             have p127 : 0 ≤ (x7_3 : Int) := of_decide_eq_true (by first | (with_reducible assumption) | assumption)
             have q127 : x7_3 < (l0_0.length : Int) := of_decide_eq_true (by first | (with_reducible assumption) | assumption)
             obtain ⟨ad127, e127, hx127_0⟩ := Kd.kG HR0_0.out x7_3 p127 q127
             cases e127
             replace hx127_0 := (HB.out.cell (World.block_lt_of_cell? w _ hx127_0)).trans hx127_0
             replace p127 := eq_true p127
             replace q127 := eq_true q127
             go_wp2_with (first | ((with_reducible refine jv (N := 52) rfl ?_); (try (refine bY (by rfl) ?_; dsimp only)); refine Kd.aay (Kd.int .i64) _ 3 ?hg (N := 52) ?hd (xs := ([rd l0_0 x7_3] : List Int)) (inner := [.int .i64 (rd l0_0 x7_3)]) (ok := fun _ => True) (okp := fun _ => True) ?hr ?hp (fun _ hk => hk) trivial (Below.refl _ _) (Nat.le_refl _) (by simp) ?_; (case hd => rfl); (case hg => rfl); (case hr => first | (go_simp; done) | (go_simp; rfl)); (case hp => exact (rG.one (show Kd.M (Kd.int .i64) _ _ _ (rd l0_0 x7_3) [.int .i64 (rd l0_0 x7_3)] from rfl) (rG.none _ _))); intro v129 w21 ho22 hb hg_ hnew_; clear hg_ hnew_; (first | rw [← Ny128.out] at ho22 | (simp only [Int.reduceToNat] at ho22; rw [← Ny128.out] at ho22)); have n0_ := aa.mk (Kd.rC ho22 (qf (by repeat (first | (with_reducible first | exact HB.out | apply za | apply ma | apply ib | refine jb ?_ GE124.out) | exact HB.out)))); have n1_ := aa.mk (lg (g := gb124) (o := .cells #[.slice (some ad127) l0_0.length c0_0, .slice A0_1 l0_1.length c0_1] 26 (0, 0)) (by (with_reducible repeat (first | refine jc ?_ _ | refine qc ?_ | refine ic ?_ _)); exact BK124.out) hb); have n2_ := aa.mk (yf (by repeat (first | (with_reducible first | exact HB.out | apply za | apply ma | apply ib | refine jb ?_ GE124.out) | exact HB.out)) hb); clear BK124; clear HB; have HO130 := n0_; have BK124 := n1_; have HB := n2_; clear n0_ n1_ n2_; clear hb ho22; obtain ⟨Ao23, co23, eo23⟩ := Kd.ay HO130.out; subst eo23) | ((with_reducible refine lh (f := 33) rfl ?_); refine oo (some 53) rfl rfl Tryz.func33 (by kernel_rfl) rfl #[.string x6_3, .slice Ao23 y128.length co23] rfl (by (try simp only [List.map_toArray, List.map_cons, List.map_nil]); first | done | rfl | (simp only [List.length_drop, List.length_take]; rfl)) ?_; (with_reducible refine (zf.calls k3 x6_3 _ _ y128 t131 _ ?side1 ?side2 A19.out).mono ?_); (case side1 => repeat (first | exact (Kd.jl HO130.out).2.2 | (with_reducible refine Kd.C_alloc ?_ _) | (with_reducible refine Kd.C_drewN ?_ _) | (with_reducible refine Kd.C_drew ?_))); (case side2 => exact (Kd.jl HO130.out).2.1); rintro e w24 ⟨rfl, hb⟩; refine ⟨_, rfl, ?_⟩; have n0_ := aa.mk (Kd.qj (by (with_reducible repeat (first | apply Kd.R_alloc | apply Kd.R_drewN | apply Kd.mg)); exact HO130.out) hb); have n1_ := aa.mk (lg (g := gb124) (o := .cells #[.slice (some ad127) l0_0.length c0_0, .slice A0_1 l0_1.length c0_1] 26 (0, 0)) (by (with_reducible repeat (first | refine jc ?_ _ | refine qc ?_ | refine ic ?_ _)); exact BK124.out) hb); have n2_ := aa.mk (yf (by repeat (first | (with_reducible first | exact HB.out | apply za | apply ma | apply ib | refine jb ?_ GE124.out) | exact HB.out)) hb); clear HO130; clear BK124; clear HB; have HO130 := n0_; have BK124 := n1_; have HB := n2_; clear n0_ n1_ n2_; (try clear hb); (try clear hb2); (try clear hk); (try clear hi)))
             go_roundg k3
             case measure => have := HJ1.out; have := HK2.out; have := HK3.out; omega
             case rel => exact ⟨(t131), (wrap64 (x7_3 + 1)), (by first | rfl | (simp; done) | (simp [*]; done)), (by first | rfl | (simp; done) | (simp [*]; done)), H', ⟨by have := HJ1.out; have := HK2.out; have := HK3.out; omega⟩, ⟨by (with_reducible repeat (first | refine jc ?_ _ | refine qc ?_ | refine ic ?_ _)); exact BK124.out⟩, ⟨by repeat (first | (with_reducible first | exact HB.out | apply za | apply ma | apply ib | refine jb ?_ GE124.out) | exact HB.out)⟩⟩
            ·rw [if_neg c18] at H
             exact absurd H (by simp)
           ·replace c17 := Bool.eq_false_iff.mpr c17
            subst c17
            have H1 : (qa.j3 k3 false x6_3 l0_0 l0_1) = some (r1, r2) := by rw [if_neg (show ¬ (false = true) by decide)] at H; exact H
            clear H
            have H := H1
            clear H1
            have H' := aa.mk H
            clear H
            have hcz25_0 : wr.cell? ⟨gb124, 0, none⟩ = some (.slice A0_0 l0_0.length c0_0) := (qd BK124.out 0).trans rfl
            have hcz25_1 : wr.cell? ⟨gb124, 1, none⟩ = some (.slice A0_1 l0_1.length c0_1) := (qd BK124.out 1).trans rfl
            have hfz25_0 := yc BK124.out 0
            have hfz25_1 := yc BK124.out 1
            go_wp2
            go_meet
            case rel => exact ⟨_, (x6_3), (by first | rfl | (simp; done) | (simp [*]; done)), H', ⟨by have := HJ1.out; have := HK2.out; have := HK3.out; first | omega | exact Nat.le_refl _⟩, ⟨by (with_reducible repeat (first | refine jc ?_ _ | refine qc ?_ | refine ic ?_ _)); exact BK124.out⟩, ⟨by repeat (first | (with_reducible first | exact HB.out | apply za | apply ma | apply ib | refine jb ?_ GE124.out) | exact HB.out)⟩⟩
          ·rw [if_neg c16] at H
           have c16b0 : decide (x7_3 < (l0_0.length : Int)) = false := decide_eq_false c16
           clear c16
           (first | rw [c16b0] | (simp only [wy, i32_w]; rw [c16b0]) | skip)
           have H' := aa.mk H
           clear H
           have hcz26_0 : wr.cell? ⟨gb124, 0, none⟩ = some (.slice A0_0 l0_0.length c0_0) := (qd BK124.out 0).trans rfl
           have hcz26_1 : wr.cell? ⟨gb124, 1, none⟩ = some (.slice A0_1 l0_1.length c0_1) := (qd BK124.out 1).trans rfl
           have hfz26_0 := yc BK124.out 0
           have hfz26_1 := yc BK124.out 1
           go_wp2
           go_meet
           case rel => exact ⟨_, (x6_3), (by first | rfl | (simp; done) | (simp [*]; done)), H', ⟨by have := HJ1.out; have := HK2.out; have := HK3.out; first | omega | exact Nat.le_refl _⟩, ⟨by (with_reducible repeat (first | refine jc ?_ _ | refine qc ?_ | refine ic ?_ _)); exact BK124.out⟩, ⟨by repeat (first | (with_reducible first | exact HB.out | apply za | apply ma | apply ib | refine jb ?_ GE124.out) | exact HB.out)⟩⟩
       case rest =>
        clear HC14
        obtain ⟨kq, x6_13, rfl, HA, HJ13, BK124, HB⟩ := hcut
        cases kq with
        | zero => exact absurd HA.out (by simp [qa.j3])
        | succ kj13 =>
         have H := HA.out
         clear HA
         simp only [qa.j3] at H
         have H' := aa.mk H
         clear H
         go_wp2
         go_loopg [5, 6, 8] kj13 (fun kq v5 v6 v8 w' => ∃ (x5_4 : Bool) (x6_4 : ByteArray) (x8_4 : Int), v5 = .bool x5_4 ∧ v6 = .string x6_4 ∧ v8 = .int .i64 x8_4 ∧ aa (qa.l2 kq x5_4 x6_4 x8_4 l0_0 l0_1 = some (r1, r2)) ∧ aa (kq ≤ kj13) ∧ aa (w'.heap[gb124]? = some (.cells #[(.slice A0_0 l0_0.length c0_0), (.slice A0_1 l0_1.length c0_1)] 26 (0, 0))) ∧ aa (Below w.heap.size w w'))
         case atStart => exact ⟨(t126), (x6_13), (0), (by first | rfl | (simp; done) | (simp [*]; done)), (by first | rfl | (simp; done) | (simp [*]; done)), (by first | rfl | (simp; done) | (simp [*]; done)), H', ⟨Nat.le_refl _⟩, ⟨by (with_reducible repeat (first | refine jc ?_ _ | refine qc ?_ | refine ic ?_ _)); exact BK124.out⟩, ⟨by repeat (first | (with_reducible first | exact HB.out | apply za | apply ma | apply ib | refine jb ?_ GE124.out) | exact HB.out)⟩⟩
         case round =>
          clear H'
          obtain ⟨x5_4, x6_4, x8_4, rfl, rfl, rfl, HA, HK4, BK124, HB⟩ := hrel
          cases gk with
          | zero => exact absurd HA.out (by simp [qa.l2])
          | succ k4 =>
           have H := HA.out
           clear HA
           simp only [qa.l2] at H
           by_cases c27 : x8_4 < (l0_1.length : Int)
           ·rw [if_pos c27] at H
            have c27b0 : decide (x8_4 < (l0_1.length : Int)) = true := decide_eq_true c27
            clear c27
            by_cases c28 : x5_4 = true
            ·subst c28
             have H1 : (if 0 ≤ x8_4 then ((bf.f k4 (ak l0_1 x8_4)).bind fun t133 => (if t133 = true then (if x6_4.size + 2 ≤ 9223372036854775807 then ((zf.f k4 (x6_4 ++ (⟨#[32, 124]⟩ : ByteArray)) (ak l0_1 x8_4)).bind fun t135 => (qa.l2 k4 t133 t135 (wrap64 (x8_4 + 1)) l0_0 l0_1)) else (none)) else (qa.l2 k4 t133 x6_4 (wrap64 (x8_4 + 1)) l0_0 l0_1))) else (none)) = some (r1, r2) := by rw [if_pos rfl] at H; exact H
             clear H
             have H := H1
             clear H1
             by_cases c29 : 0 ≤ x8_4
             ·rw [if_pos c29] at H
              have c29b0 : decide (0 ≤ x8_4) = true := decide_eq_true c29
              clear c29
              replace H := Option.bind_eq_some_iff.mp H
              obtain ⟨t133, A300, H⟩ := H
              replace H : (if t133 = true then (if x6_4.size + 2 ≤ 9223372036854775807 then ((zf.f k4 (x6_4 ++ (⟨#[32, 124]⟩ : ByteArray)) (ak l0_1 x8_4)).bind fun t135 => (qa.l2 k4 t133 t135 (wrap64 (x8_4 + 1)) l0_0 l0_1)) else (none)) else (qa.l2 k4 t133 x6_4 (wrap64 (x8_4 + 1)) l0_0 l0_1)) = some (r1, r2) := H
              have A30 := aa.mk A300
              clear A300
              by_cases c31 : t133 = true
              ·subst c31
               have H1 : (if x6_4.size + 2 ≤ 9223372036854775807 then ((zf.f k4 (x6_4 ++ (⟨#[32, 124]⟩ : ByteArray)) (ak l0_1 x8_4)).bind fun t135 => (qa.l2 k4 true t135 (wrap64 (x8_4 + 1)) l0_0 l0_1)) else (none)) = some (r1, r2) := by rw [if_pos rfl] at H; exact H
               clear H
               have H := H1
               clear H1
               by_cases c32 : x6_4.size + 2 ≤ 9223372036854775807
               ·rw [if_pos c32] at H
                have c32b0 := eq_true c32
                have c32b1 : decide (x6_4.size + 2 ≤ 9223372036854775807) = true := decide_eq_true c32
                try have c32b2 : (9223372036854775807 < x6_4.size + 2) = False := eq_false (Nat.not_lt.2 c32)
                replace H := Option.bind_eq_some_iff.mp H
                obtain ⟨t135, A330, H⟩ := H
                replace H : (qa.l2 k4 true t135 (wrap64 (x8_4 + 1)) l0_0 l0_1) = some (r1, r2) := H
                have A33 := aa.mk A330
                clear A330
                have H' := aa.mk H
                clear H
                have hcz34_0 : wr.cell? ⟨gb124, 0, none⟩ = some (.slice A0_0 l0_0.length c0_0) := (qd BK124.out 0).trans rfl
                have hcz34_1 : wr.cell? ⟨gb124, 1, none⟩ = some (.slice A0_1 l0_1.length c0_1) := (qd BK124.out 1).trans rfl
                have hfz34_0 := yc BK124.out 0
                have hfz34_1 := yc BK124.out 1
                have p132 : 0 ≤ (x8_4 : Int) := of_decide_eq_true (by first | (with_reducible assumption) | assumption)
                have q132 : x8_4 < (l0_1.length : Int) := of_decide_eq_true (by first | (with_reducible assumption) | assumption)
                obtain ⟨ad132, A132_0, c132_0, e132, hx132_0, hl132_0, hi132_0⟩ := iM HR0_1.out x8_4 p132 q132
                cases e132
                replace hx132_0 := (HB.out.cell (World.block_lt_of_cell? w _ hx132_0)).trans hx132_0
                have HR132_0 := aa.mk hi132_0
                have HC132_0 := aa.mk hl132_0
                clear hi132_0 hl132_0
                replace p132 := eq_true p132
                replace q132 := eq_true q132
                go_wp2_with (first | (go_at_call 32; (with_reducible refine (bf.calls k4 _ _ (ak l0_1 x8_4) true _ ?side1 ?side2 A30.out).mono ?_); (case side1 => repeat (first | exact (Kd.zw HR132_0.out HB.out) | (with_reducible refine Kd.C_alloc ?_ _) | (with_reducible refine Kd.C_drewN ?_ _) | (with_reducible refine Kd.C_drew ?_))); (case side2 => exact HC132_0.out); rintro e w' ⟨rfl, ⟨nd, rfl⟩⟩; have p134 : 0 ≤ (x8_4 : Int) := of_decide_eq_true (by first | (with_reducible assumption) | assumption); have q134 : x8_4 < (l0_1.length : Int) := of_decide_eq_true (by first | (with_reducible assumption) | assumption); obtain ⟨ad134, A134_0, c134_0, e134, hx134_0, hl134_0, hi134_0⟩ := iM HR0_1.out x8_4 p134 q134; obtain rfl : ad132 = ad134 := (by injection e134); replace hx134_0 := (HB.out.cell (World.block_lt_of_cell? w _ hx134_0)).trans hx134_0; have HR134_0 := aa.mk hi134_0; have HC134_0 := aa.mk hl134_0; clear hi134_0 hl134_0; replace p134 := eq_true p134; replace q134 := eq_true q134; have ea_ := Option.some.inj (hx132_0.symm.trans hx134_0); injection ea_ with ea_ en_ ec_; subst ea_; subst ec_; clear en_) | ((with_reducible refine lh (f := 33) rfl ?_); refine oo (some 78) rfl rfl Tryz.func33 (by kernel_rfl) rfl #[.string (x6_4 ++ (⟨#[32, 124]⟩ : ByteArray)), .slice A132_0 (ak l0_1 x8_4).length c132_0] rfl (by (try simp only [List.map_toArray, List.map_cons, List.map_nil]); first | done | rfl | (simp only [List.length_drop, List.length_take]; rfl)) ?_; (with_reducible refine (zf.calls k4 (x6_4 ++ (⟨#[32, 124]⟩ : ByteArray)) _ _ (ak l0_1 x8_4) t135 _ ?side1 ?side2 A33.out).mono ?_); (case side1 => repeat (first | exact (Kd.zw HR134_0.out (by repeat (first | (with_reducible first | exact HB.out | apply za | apply ma | apply ib | refine jb ?_ GE124.out) | exact HB.out))) | (with_reducible refine Kd.C_alloc ?_ _) | (with_reducible refine Kd.C_drewN ?_ _) | (with_reducible refine Kd.C_drew ?_))); (case side2 => exact HC134_0.out); rintro e w35 ⟨rfl, hb⟩; refine ⟨_, rfl, ?_⟩; have n0_ := aa.mk (lg (g := gb124) (o := .cells #[.slice A0_0 l0_0.length c0_0, .slice (some ad132) l0_1.length c0_1] 26 (0, 0)) (by (with_reducible repeat (first | refine jc ?_ _ | refine qc ?_ | refine ic ?_ _)); exact BK124.out) hb); have n1_ := aa.mk (yf (by repeat (first | (with_reducible first | exact HB.out | apply za | apply ma | apply ib | refine jb ?_ GE124.out) | exact HB.out)) hb); clear BK124; clear HB; have BK124 := n0_; have HB := n1_; clear n0_ n1_; (try clear hb); (try clear hb2); (try clear hk); (try clear hi)))
                go_roundg k4
                case measure => have := HJ1.out; have := HK2.out; have := HJ13.out; have := HK4.out; omega
                case rel => exact ⟨(true), (t135), (wrap64 (x8_4 + 1)), (by first | rfl | (simp; done) | (simp [*]; done)), (by first | rfl | (simp; done) | (simp [*]; done)), (by first | rfl | (simp; done) | (simp [*]; done)), H', ⟨by have := HJ1.out; have := HK2.out; have := HJ13.out; have := HK4.out; omega⟩, ⟨by (with_reducible repeat (first | refine jc ?_ _ | refine qc ?_ | refine ic ?_ _)); exact BK124.out⟩, ⟨by repeat (first | (with_reducible first | exact HB.out | apply za | apply ma | apply ib | refine jb ?_ GE124.out) | exact HB.out)⟩⟩
               ·rw [if_neg c32] at H
                exact absurd H (by simp)
              ·replace c31 := Bool.eq_false_iff.mpr c31
               subst c31
               have H1 : (qa.l2 k4 false x6_4 (wrap64 (x8_4 + 1)) l0_0 l0_1) = some (r1, r2) := by rw [if_neg (show ¬ (false = true) by decide)] at H; exact H
               clear H
               have H := H1
               clear H1
               have H' := aa.mk H
               clear H
               have hcz36_0 : wr.cell? ⟨gb124, 0, none⟩ = some (.slice A0_0 l0_0.length c0_0) := (qd BK124.out 0).trans rfl
               have hcz36_1 : wr.cell? ⟨gb124, 1, none⟩ = some (.slice A0_1 l0_1.length c0_1) := (qd BK124.out 1).trans rfl
               have hfz36_0 := yc BK124.out 0
               have hfz36_1 := yc BK124.out 1
               have p132 : 0 ≤ (x8_4 : Int) := of_decide_eq_true (by first | (with_reducible assumption) | assumption)
               have q132 : x8_4 < (l0_1.length : Int) := of_decide_eq_true (by first | (with_reducible assumption) | assumption)
               obtain ⟨ad132, A132_0, c132_0, e132, hx132_0, hl132_0, hi132_0⟩ := iM HR0_1.out x8_4 p132 q132
               cases e132
               replace hx132_0 := (HB.out.cell (World.block_lt_of_cell? w _ hx132_0)).trans hx132_0
               have HR132_0 := aa.mk hi132_0
               have HC132_0 := aa.mk hl132_0
               clear hi132_0 hl132_0
               replace p132 := eq_true p132
               replace q132 := eq_true q132
               go_wp2_with (first | (go_at_call 32; (with_reducible refine (bf.calls k4 _ _ (ak l0_1 x8_4) false _ ?side1 ?side2 A30.out).mono ?_); (case side1 => repeat (first | exact (Kd.zw HR132_0.out HB.out) | (with_reducible refine Kd.C_alloc ?_ _) | (with_reducible refine Kd.C_drewN ?_ _) | (with_reducible refine Kd.C_drew ?_))); (case side2 => exact HC132_0.out); rintro e w' ⟨rfl, ⟨nd, rfl⟩⟩))
               go_roundg k4
               case measure => have := HJ1.out; have := HK2.out; have := HJ13.out; have := HK4.out; omega
               case rel => exact ⟨(false), (x6_4), (wrap64 (x8_4 + 1)), (by first | rfl | (simp; done) | (simp [*]; done)), (by first | rfl | (simp; done) | (simp [*]; done)), (by first | rfl | (simp; done) | (simp [*]; done)), H', ⟨by have := HJ1.out; have := HK2.out; have := HJ13.out; have := HK4.out; omega⟩, ⟨by (with_reducible repeat (first | refine jc ?_ _ | refine qc ?_ | refine ic ?_ _)); exact BK124.out⟩, ⟨by repeat (first | (with_reducible first | exact HB.out | apply za | apply ma | apply ib | refine jb ?_ GE124.out) | exact HB.out)⟩⟩
             ·rw [if_neg c29] at H
              exact absurd H (by simp)
            ·replace c28 := Bool.eq_false_iff.mpr c28
             subst c28
             have H1 : (qa.l2 k4 false x6_4 (wrap64 (x8_4 + 1)) l0_0 l0_1) = some (r1, r2) := by rw [if_neg (show ¬ (false = true) by decide)] at H; exact H
             clear H
             have H := H1
             clear H1
             have H' := aa.mk H
             clear H
             have hcz37_0 : wr.cell? ⟨gb124, 0, none⟩ = some (.slice A0_0 l0_0.length c0_0) := (qd BK124.out 0).trans rfl
             have hcz37_1 : wr.cell? ⟨gb124, 1, none⟩ = some (.slice A0_1 l0_1.length c0_1) := (qd BK124.out 1).trans rfl
             have hfz37_0 := yc BK124.out 0
             have hfz37_1 := yc BK124.out 1
             go_wp2
             go_roundg k4
             case measure => have := HJ1.out; have := HK2.out; have := HJ13.out; have := HK4.out; omega
             case rel => exact ⟨(false), (x6_4), (wrap64 (x8_4 + 1)), (by first | rfl | (simp; done) | (simp [*]; done)), (by first | rfl | (simp; done) | (simp [*]; done)), (by first | rfl | (simp; done) | (simp [*]; done)), H', ⟨by have := HJ1.out; have := HK2.out; have := HJ13.out; have := HK4.out; omega⟩, ⟨by (with_reducible repeat (first | refine jc ?_ _ | refine qc ?_ | refine ic ?_ _)); exact BK124.out⟩, ⟨by repeat (first | (with_reducible first | exact HB.out | apply za | apply ma | apply ib | refine jb ?_ GE124.out) | exact HB.out)⟩⟩
           ·rw [if_neg c27] at H
            have c27b0 : decide (x8_4 < (l0_1.length : Int)) = false := decide_eq_false c27
            clear c27
            by_cases c38 : x5_4 = true
            ·subst c38
             have H1 : (if x6_4.toList = ([] : List UInt8) then (some ((⟨#[]⟩ : ByteArray), 0)) else (if 1 ≤ (x6_4.size : Int) then (some (x6_4.extract 1 x6_4.size, 0)) else (none))) = some (r1, r2) := by rw [if_pos rfl] at H; exact H
             clear H
             have H := H1
             clear H1
             by_cases c39 : x6_4.toList = ([] : List UInt8)
             ·rw [if_pos c39] at H
              have c39b0 : (x6_4.toList == ([] : List UInt8)) = true := beq_iff_eq.mpr c39
              have c39b1 : (x6_4.toList != ([] : List UInt8)) = false := bne_eq_false_iff_eq.mpr c39
              clear c39
              simp only [Option.some.injEq, Prod.mk.injEq] at H
              obtain ⟨rfl, rfl⟩ := H
              have hcz40_0 : wr.cell? ⟨gb124, 0, none⟩ = some (.slice A0_0 l0_0.length c0_0) := (qd BK124.out 0).trans rfl
              have hcz40_1 : wr.cell? ⟨gb124, 1, none⟩ = some (.slice A0_1 l0_1.length c0_1) := (qd BK124.out 1).trans rfl
              have hfz40_0 := yc BK124.out 0
              have hfz40_1 := yc BK124.out 1
              go_wp2
              go_ret2
              exact ⟨by first | rfl | (simp [jh, dh] <;> rfl) | (simp [*, jh, dh] <;> rfl), by repeat (first | (with_reducible first | exact HB.out | apply za | apply ma | apply ib | refine jb ?_ GE124.out) | exact HB.out)⟩
             ·rw [if_neg c39] at H
              have c39b0 : (x6_4.toList == ([] : List UInt8)) = false := beq_eq_false_iff_ne.mpr c39
              have c39b1 : (x6_4.toList != ([] : List UInt8)) = true := bne_iff_ne.mpr c39
              by_cases c41 : 1 ≤ (x6_4.size : Int)
              ·rw [if_pos c41] at H
               have c41b0 := eq_true c41
               have c41b1 : decide (1 ≤ (x6_4.size : Int)) = true := decide_eq_true c41
               clear c41
               simp only [Option.some.injEq, Prod.mk.injEq] at H
               obtain ⟨rfl, rfl⟩ := H
               have hcz42_0 : wr.cell? ⟨gb124, 0, none⟩ = some (.slice A0_0 l0_0.length c0_0) := (qd BK124.out 0).trans rfl
               have hcz42_1 : wr.cell? ⟨gb124, 1, none⟩ = some (.slice A0_1 l0_1.length c0_1) := (qd BK124.out 1).trans rfl
               have hfz42_0 := yc BK124.out 0
               have hfz42_1 := yc BK124.out 1
               go_wp2
               go_ret2
               exact ⟨by first | rfl | (simp [jh, dh] <;> rfl) | (simp [*, jh, dh] <;> rfl), by repeat (first | (with_reducible first | exact HB.out | apply za | apply ma | apply ib | refine jb ?_ GE124.out) | exact HB.out)⟩
              ·rw [if_neg c41] at H
               exact absurd H (by simp)
            ·replace c38 := Bool.eq_false_iff.mpr c38
             subst c38
             have H1 : (some ((⟨#[]⟩ : ByteArray), 1)) = some (r1, r2) := by rw [if_neg (show ¬ (false = true) by decide)] at H; exact H
             clear H
             have H := H1
             clear H1
             simp only [Option.some.injEq, Prod.mk.injEq] at H
             obtain ⟨rfl, rfl⟩ := H
             have hcz43_0 : wr.cell? ⟨gb124, 0, none⟩ = some (.slice A0_0 l0_0.length c0_0) := (qd BK124.out 0).trans rfl
             have hcz43_1 : wr.cell? ⟨gb124, 1, none⟩ = some (.slice A0_1 l0_1.length c0_1) := (qd BK124.out 1).trans rfl
             have hfz43_0 := yc BK124.out 0
             have hfz43_1 := yc BK124.out 1
             go_wp2
             go_ret2
             exact ⟨by first | rfl | (simp [jh, dh] <;> rfl) | (simp [*, jh, dh] <;> rfl), by repeat (first | (with_reducible first | exact HB.out | apply za | apply ma | apply ib | refine jb ?_ GE124.out) | exact HB.out)⟩
end Go.Proofs.YtcbeheaiblgpfaaGreatDoor.Ask
end
