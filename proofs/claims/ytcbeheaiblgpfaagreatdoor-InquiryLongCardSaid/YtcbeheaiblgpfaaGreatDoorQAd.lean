/- The law InquiryLong: part Ad. -/
import Derived.Test.YtcbeheaiblgpfaaGreatDoorQAc
set_option linter.unusedVariables false
set_option linter.unusedSimpArgs false
noncomputable section
namespace Go.Proofs.YtcbeheaiblgpfaaGreatDoor.Ask
open Go.RowKit Go.Proofs.YtcbeheaiblgpfaaGreatDoorW.PrintWords Go.Proofs.YtcbeheaiblgpfaaGreatDoorW.PrintLast Go.Proofs.YtcbeheaiblgpfaaGreatDoorW.PrintMore
def errW : Option Int → Value
 | none => .nilIface
 | some c => .iface 0 (.int .i64 c)
theorem jh : errW none = .nilIface := rfl
theorem dh (c : Int) : errW (some c) = .iface 0 (.int .i64 c) := rfl
section
def ym.f (a0 : Int) (a1 : Int) (a2 : Int) : Option (Bool) := if a0 ≥ a1 then (some (decide (a0 ≤ a2))) else (some false)
set_option maxHeartbeats 8000000 in
set_option maxRecDepth 100000 in
theorem ym.calls (a0 : Int) (a1 : Int) (a2 : Int) (r : Bool) (w : World) (h : ym.f a0 a1 a2 = some r) :
  Calls Tryz.prog 73 #[.int .i64 a0, .int .i64 a1, .int .i64 a2] w fun e w' => e = .returned (.bool r) ∧ mi w w' := by
 have H : (if a0 ≥ a1 then (some (decide (a0 ≤ a2))) else (some false)) = some r := h
 clear h
 by_cases c4 : a0 ≥ a1
 ·rw [if_pos c4] at H
  have c4b0 : decide (a1 ≤ a0) = true := decide_eq_true c4
  clear c4
  obtain rfl := Option.some.inj H
  go_enter Tryz.func73, Tryz.ntmps73
  go_wp2
  go_ret
  exact ⟨by first | rfl | (simp; done) | (simp [*]; done), by repeat (first | exact mi.refl _ | apply mi.step)⟩
 ·rw [if_neg c4] at H
  have c4b0 : decide (a1 ≤ a0) = false := decide_eq_false c4
  clear c4
  obtain rfl := Option.some.inj H
  go_enter Tryz.func73, Tryz.ntmps73
  go_wp2
  go_ret
  exact ⟨by first | rfl | (simp; done) | (simp [*]; done), by repeat (first | exact mi.refl _ | apply mi.step)⟩
def bf.l0 : Nat → List Int → Int → Option (Bool)
 | 0, _, _ => none
 | k + 1, x0, x3 => if x3 < (x0.length : Int) then (if 0 ≤ x3 then ((ym.f (rd x0 x3) (-1) 1000000000000).bind fun t103 => (if t103 = true then (bf.l0 k x0 (wrap64 (x3 + 1))) else (some false))) else (none)) else (some true)
def bf.f (k : Nat) (l0 : List Int) : Option (Bool) := bf.l0 k l0 0
set_option maxHeartbeats 8000000 in
set_option maxRecDepth 100000 in
theorem bf.calls (k : Nat) (A0 : Option Addr) (c0 : Nat) (l0 : List Int) (r : Bool) (w : World) (hr0 : Kd.C (Kd.int .i64) w A0 l0.length l0) (hc0 : l0.length ≤ c0) (h : bf.f k l0 = some r) :
  Calls Tryz.prog 32 #[.slice A0 l0.length c0] w fun e w' => e = .returned (.bool r) ∧ mi w w' := by
 have HR0 := aa.mk hr0
 have HC0 := aa.mk hc0
 clear hr0 hc0
 have H : (bf.l0 k l0 0) = some r := h
 clear h
 have H' := aa.mk H
 clear H
 go_enter Tryz.func32, Tryz.ntmps32
 go_wp2
 go_loopg [3] k (fun kq v3 w' => ∃ (x3_1 : Int), v3 = .int .i64 x3_1 ∧ aa (bf.l0 kq l0 x3_1 = some r) ∧ aa (kq ≤ k) ∧ mi w w')
 case atStart => exact ⟨(0), (by first | rfl | (simp; done) | (simp [*]; done)), H', ⟨Nat.le_refl _⟩, by repeat (first | exact mi.refl _ | apply mi.step)⟩
 case round =>
  clear H'
  obtain ⟨x3_1, rfl, HA, HK1, ⟨m1, rfl⟩⟩ := hrel
  cases gk with
  | zero => exact absurd HA.out (by simp [bf.l0])
  | succ k1 =>
   have H := HA.out
   clear HA
   simp only [bf.l0] at H
   by_cases c2 : x3_1 < (l0.length : Int)
   ·rw [if_pos c2] at H
    have c2b0 : decide (x3_1 < (l0.length : Int)) = true := decide_eq_true c2
    clear c2
    by_cases c3 : 0 ≤ x3_1
    ·rw [if_pos c3] at H
     have c3b0 : decide (0 ≤ x3_1) = true := decide_eq_true c3
     clear c3
     replace H := Option.bind_eq_some_iff.mp H
     obtain ⟨t103, A40, H⟩ := H
     replace H : (if t103 = true then (bf.l0 k1 l0 (wrap64 (x3_1 + 1))) else (some false)) = some r := H
     have A4 := aa.mk A40
     clear A40
     by_cases c5 : t103 = true
     ·subst c5
      have H1 : (bf.l0 k1 l0 (wrap64 (x3_1 + 1))) = some r := by rw [if_pos rfl] at H; exact H
      clear H
      have H := H1
      clear H1
      have H' := aa.mk H
      clear H
      have p102 : 0 ≤ (x3_1 : Int) := of_decide_eq_true (by first | (with_reducible assumption) | assumption)
      have q102 : x3_1 < (l0.length : Int) := of_decide_eq_true (by first | (with_reducible assumption) | assumption)
      obtain ⟨ad102, e102, hx102_0⟩ := Kd.kG HR0.out x3_1 p102 q102
      cases e102
      replace p102 := eq_true p102
      replace q102 := eq_true q102
      go_wp2_with (first | ((with_reducible refine lh (f := 73) rfl ?_); refine oo (some 14) rfl rfl Tryz.func73 (by kernel_rfl) rfl #[.int .i64 (rd l0 x3_1), .int .i64 (-1), .int .i64 1000000000000] rfl (by (try simp only [List.map_toArray, List.map_cons, List.map_nil]); first | done | rfl | (simp only [List.length_drop, List.length_take]; rfl)) ?_; (with_reducible refine (ym.calls (rd l0 x3_1) (-1) 1000000000000 true _ A4.out).mono ?_); rintro e w' ⟨rfl, ⟨nd, rfl⟩⟩; refine ⟨_, rfl, ?_⟩))
      go_roundg k1
      case measure => have := HK1.out; omega
      case rel => exact ⟨(wrap64 (x3_1 + 1)), (by first | rfl | (simp; done) | (simp [*]; done)), H', ⟨by have := HK1.out; omega⟩, by repeat (first | exact mi.refl _ | apply mi.step)⟩
     ·replace c5 := Bool.eq_false_iff.mpr c5
      subst c5
      have H1 : (some false) = some r := by rw [if_neg (show ¬ (false = true) by decide)] at H; exact H
      clear H
      have H := H1
      clear H1
      obtain rfl := Option.some.inj H
      have p102 : 0 ≤ (x3_1 : Int) := of_decide_eq_true (by first | (with_reducible assumption) | assumption)
      have q102 : x3_1 < (l0.length : Int) := of_decide_eq_true (by first | (with_reducible assumption) | assumption)
      obtain ⟨ad102, e102, hx102_0⟩ := Kd.kG HR0.out x3_1 p102 q102
      cases e102
      replace p102 := eq_true p102
      replace q102 := eq_true q102
      go_wp2_with (first | ((with_reducible refine lh (f := 73) rfl ?_); refine oo (some 14) rfl rfl Tryz.func73 (by kernel_rfl) rfl #[.int .i64 (rd l0 x3_1), .int .i64 (-1), .int .i64 1000000000000] rfl (by (try simp only [List.map_toArray, List.map_cons, List.map_nil]); first | done | rfl | (simp only [List.length_drop, List.length_take]; rfl)) ?_; (with_reducible refine (ym.calls (rd l0 x3_1) (-1) 1000000000000 false _ A4.out).mono ?_); rintro e w' ⟨rfl, ⟨nd, rfl⟩⟩; refine ⟨_, rfl, ?_⟩))
      go_ret
      exact ⟨by first | rfl | (simp; done) | (simp [*]; done), by repeat (first | exact mi.refl _ | apply mi.step)⟩
    ·rw [if_neg c3] at H
     exact absurd H (by simp)
   ·rw [if_neg c2] at H
    have c2b0 : decide (x3_1 < (l0.length : Int)) = false := decide_eq_false c2
    clear c2
    obtain rfl := Option.some.inj H
    go_wp2
    go_ret
    exact ⟨by first | rfl | (simp; done) | (simp [*]; done), by repeat (first | exact mi.refl _ | apply mi.step)⟩
def uf.f : Nat → Int → Option (ByteArray)
 | 0, _ => none
 | k + 1, a0 => if a0 < 0 then ((uf.f k 1).bind fun t104 => (if 1 + t104.size ≤ 9223372036854775807 then (some ((⟨#[45]⟩ : ByteArray) ++ t104)) else (none))) else (if a0 < 10 then (some (strOfNums (([(wrap64 (48 + a0)) % 256] : List Int)))) else ((uf.f k (wrap64 (Int.tdiv a0 10))).bind fun t108 => ((uf.f k (Int.tmod a0 10)).bind fun t109 => (if t108.size + t109.size ≤ 9223372036854775807 then (some (t108 ++ t109)) else (none)))))
set_option maxHeartbeats 8000000 in
set_option maxRecDepth 100000 in
theorem uf.calls (k : Nat) : ∀ (a0 : Int) (r : ByteArray) (w : World) (h : uf.f k a0 = some r),
  Calls Tryz.prog 74 #[.int .i64 a0] w fun e w' => e = .returned (.string r) ∧ Below w.heap.size w w' := by
 induction k using Nat.strongRecOn with
 | _ k ih =>
 intro a0 r w h
 cases k with
 | zero => exact absurd h (by simp [uf.f])
 | succ k =>
 simp only [uf.f] at h
 have HB := aa.mk (Below.refl w.heap.size w)
 have H : (if a0 < 0 then ((uf.f k 1).bind fun t104 => (if 1 + t104.size ≤ 9223372036854775807 then (some ((⟨#[45]⟩ : ByteArray) ++ t104)) else (none))) else (if a0 < 10 then (some (strOfNums (([(wrap64 (48 + a0)) % 256] : List Int)))) else ((uf.f k (wrap64 (Int.tdiv a0 10))).bind fun t108 => ((uf.f k (Int.tmod a0 10)).bind fun t109 => (if t108.size + t109.size ≤ 9223372036854775807 then (some (t108 ++ t109)) else (none)))))) = some r := h
 clear h
 by_cases c2 : a0 < 0
 ·rw [if_pos c2] at H
  have c2b0 : decide (a0 < 0) = true := decide_eq_true c2
  clear c2
  replace H := Option.bind_eq_some_iff.mp H
  obtain ⟨t104, A30, H⟩ := H
  replace H : (if 1 + t104.size ≤ 9223372036854775807 then (some ((⟨#[45]⟩ : ByteArray) ++ t104)) else (none)) = some r := H
  have A3 := aa.mk A30
  clear A30
  by_cases c4 : 1 + t104.size ≤ 9223372036854775807
  ·rw [if_pos c4] at H
   have c4b0 := eq_true c4
   have c4b1 : decide (1 + t104.size ≤ 9223372036854775807) = true := decide_eq_true c4
   try have c4b2 : (9223372036854775807 < 1 + t104.size) = False := eq_false (Nat.not_lt.2 c4)
   obtain rfl := Option.some.inj H
   go_enter Tryz.func74, Tryz.ntmps74
   go_wp2_with (first | ((with_reducible refine lh (f := 74) rfl ?_); refine oo (some 5) rfl rfl Tryz.func74 (by kernel_rfl) rfl #[.int .i64 1] rfl (by (try simp only [List.map_toArray, List.map_cons, List.map_nil]); first | done | rfl | (simp only [List.length_drop, List.length_take]; rfl)) ?_; (with_reducible refine (ih k (by omega) 1 t104 _ A3.out).mono ?_); rintro e w5 ⟨rfl, hb⟩; refine ⟨_, rfl, ?_⟩; have n0_ := aa.mk (yf (by repeat (first | (with_reducible first | exact HB.out | apply za | apply ma | apply ib) | exact HB.out)) hb); clear HB; have HB := n0_; clear n0_; (try clear hb); (try clear hb2); (try clear hk); (try clear hi)))
   go_ret
   exact ⟨by first | rfl | (simp [jh, dh] <;> rfl) | (simp [*, jh, dh] <;> rfl), by repeat (first | (with_reducible first | exact HB.out | apply za | apply ma | apply ib) | exact HB.out)⟩
  ·rw [if_neg c4] at H
   exact absurd H (by simp)
 ·rw [if_neg c2] at H
  have c2b0 : decide (a0 < 0) = false := decide_eq_false c2
  clear c2
  by_cases c6 : a0 < 10
  ·rw [if_pos c6] at H
   have c6b0 : decide (a0 < 10) = true := decide_eq_true c6
   clear c6
   obtain ⟨y105, hy105⟩ : ∃ y_ : List Int, y_ = (([(wrap64 (48 + a0)) % 256] : List Int)) := ⟨_, rfl⟩
   replace H : (some (strOfNums y105)) = some r := by first | (rw [hy105]; with_reducible exact H) | (have H2_ := (Option.bind_some _ _).symm.trans H; rw [hy105]; with_reducible exact H2_) | (have H2_ := (Option.bind_some _ _).symm.trans H; with_reducible exact H2_) | with_reducible exact H | (rw [hy105]; exact H) | exact H
   have Ny105 := aa.mk hy105
   clear hy105
   obtain rfl := Option.some.inj H
   go_enter Tryz.func74, Tryz.ntmps74
   go_wp2_with (first | ((with_reducible refine jv (N := 12) rfl ?_); refine Kd.aay (Kd.int .u8) _ 5 ?hg (N := 12) ?hd (xs := ([(wrap64 (48 + a0)) % 256] : List Int)) (inner := [.int .u8 ((wrap64 (48 + a0)) % 256)]) (ok := fun _ => True) (okp := fun _ => True) ?hr ?hp (fun _ hk => hk) trivial (Below.refl _ _) (Nat.le_refl _) (by simp) ?_; (case hd => rfl); (case hg => rfl); (case hr => first | (go_simp; done) | (go_simp; rfl)); (case hp => exact (rG.one (show Kd.M (Kd.int .u8) _ _ _ ((wrap64 (48 + a0)) % 256) [.int .u8 ((wrap64 (48 + a0)) % 256)] from rfl) (rG.none _ _))); intro v106 w7 ho8 hb hg_ hnew_; clear hg_ hnew_; (first | rw [← Ny105.out] at ho8 | (simp only [Int.reduceToNat] at ho8; rw [← Ny105.out] at ho8)); have n0_ := aa.mk (Kd.rC ho8 (qf (by repeat (first | (with_reducible first | exact HB.out | apply za | apply ma | apply ib) | exact HB.out)))); have n1_ := aa.mk (yf (by repeat (first | (with_reducible first | exact HB.out | apply za | apply ma | apply ib) | exact HB.out)) hb); clear HB; have HO107 := n0_; have HB := n1_; clear n0_ n1_; clear hb ho8; have hcv9 := tai (P := Tryz.prog) Tryz.underlying96 Tryz.underlying5 Tryz.underlying9 (Kd.xaq HO107.out)))
   go_ret
   exact ⟨by first | rfl | (simp [jh, dh] <;> rfl) | (simp [*, jh, dh] <;> rfl), by repeat (first | (with_reducible first | exact HB.out | apply za | apply ma | apply ib) | exact HB.out)⟩
  ·rw [if_neg c6] at H
   have c6b0 : decide (a0 < 10) = false := decide_eq_false c6
   clear c6
   replace H := Option.bind_eq_some_iff.mp H
   obtain ⟨t108, A100, H⟩ := H
   replace H : ((uf.f k (Int.tmod a0 10)).bind fun t109 => (if t108.size + t109.size ≤ 9223372036854775807 then (some (t108 ++ t109)) else (none))) = some r := H
   have A10 := aa.mk A100
   clear A100
   replace H := Option.bind_eq_some_iff.mp H
   obtain ⟨t109, A110, H⟩ := H
   replace H : (if t108.size + t109.size ≤ 9223372036854775807 then (some (t108 ++ t109)) else (none)) = some r := H
   have A11 := aa.mk A110
   clear A110
   by_cases c12 : t108.size + t109.size ≤ 9223372036854775807
   ·rw [if_pos c12] at H
    have c12b0 := eq_true c12
    have c12b1 : decide (t108.size + t109.size ≤ 9223372036854775807) = true := decide_eq_true c12
    try have c12b2 : (9223372036854775807 < t108.size + t109.size) = False := eq_false (Nat.not_lt.2 c12)
    obtain rfl := Option.some.inj H
    go_enter Tryz.func74, Tryz.ntmps74
    go_wp2_with (first | ((with_reducible refine lh (f := 74) rfl ?_); refine oo (some 16) rfl rfl Tryz.func74 (by kernel_rfl) rfl #[.int .i64 (wrap64 (Int.tdiv a0 10))] rfl (by (try simp only [List.map_toArray, List.map_cons, List.map_nil]); first | done | rfl | (simp only [List.length_drop, List.length_take]; rfl)) ?_; (with_reducible refine (ih k (by omega) (wrap64 (Int.tdiv a0 10)) t108 _ A10.out).mono ?_); rintro e w13 ⟨rfl, hb⟩; refine ⟨_, rfl, ?_⟩; have n0_ := aa.mk (yf (by repeat (first | (with_reducible first | exact HB.out | apply za | apply ma | apply ib) | exact HB.out)) hb); clear HB; have HB := n0_; clear n0_; (try clear hb); (try clear hb2); (try clear hk); (try clear hi)) | ((with_reducible refine lh (f := 74) rfl ?_); refine oo (some 19) rfl rfl Tryz.func74 (by kernel_rfl) rfl #[.int .i64 (Int.tmod a0 10)] rfl (by (try simp only [List.map_toArray, List.map_cons, List.map_nil]); first | done | rfl | (simp only [List.length_drop, List.length_take]; rfl)) ?_; (with_reducible refine (ih k (by omega) (Int.tmod a0 10) t109 _ A11.out).mono ?_); rintro e w14 ⟨rfl, hb⟩; refine ⟨_, rfl, ?_⟩; have n0_ := aa.mk (yf (by repeat (first | (with_reducible first | exact HB.out | apply za | apply ma | apply ib) | exact HB.out)) hb); clear HB; have HB := n0_; clear n0_; (try clear hb); (try clear hb2); (try clear hk); (try clear hi)))
    go_ret
    exact ⟨by first | rfl | (simp [jh, dh] <;> rfl) | (simp [*, jh, dh] <;> rfl), by repeat (first | (with_reducible first | exact HB.out | apply za | apply ma | apply ib) | exact HB.out)⟩
   ·rw [if_neg c12] at H
    exact absurd H (by simp)
def zf.l0 : Nat → ByteArray → List Int → Int → Option (ByteArray)
 | 0, _, _, _ => none
 | k + 1, x0, x1, x5 => if x5 < (x1.length : Int) then (if x0.size + 1 ≤ 9223372036854775807 then (if 0 ≤ x5 then ((uf.f k (rd x1 x5)).bind fun t111 => (if (x0 ++ (⟨#[32]⟩ : ByteArray)).size + t111.size ≤ 9223372036854775807 then (zf.l0 k ((x0 ++ (⟨#[32]⟩ : ByteArray)) ++ t111) x1 (wrap64 (x5 + 1))) else (none))) else (none)) else (none)) else (some x0)
def zf.f (k : Nat) (a0 : ByteArray) (l1 : List Int) : Option (ByteArray) := zf.l0 k a0 l1 0
set_option maxHeartbeats 8000000 in
set_option maxRecDepth 100000 in
theorem zf.calls (k : Nat) (a0 : ByteArray) (A1 : Option Addr) (c1 : Nat) (l1 : List Int) (r : ByteArray) (w : World) (hr1 : Kd.C (Kd.int .i64) w A1 l1.length l1) (hc1 : l1.length ≤ c1) (h : zf.f k a0 l1 = some r) :
  Calls Tryz.prog 33 #[.string a0, .slice A1 l1.length c1] w fun e w' => e = .returned (.string r) ∧ Below w.heap.size w w' := by
 have HR1 := aa.mk hr1
 have HC1 := aa.mk hc1
 clear hr1 hc1
 have HB := aa.mk (Below.refl w.heap.size w)
 have H : (zf.l0 k a0 l1 0) = some r := h
 clear h
 have H' := aa.mk H
 clear H
 go_enter Tryz.func33, Tryz.ntmps33
 go_wp2
 go_loopg [0, 5] k (fun kq v0 v5 w' => ∃ (x0_1 : ByteArray) (x5_1 : Int), v0 = .string x0_1 ∧ v5 = .int .i64 x5_1 ∧ aa (zf.l0 kq x0_1 l1 x5_1 = some r) ∧ aa (kq ≤ k) ∧ aa (Below w.heap.size w w'))
 case atStart => exact ⟨(a0), (0), (by first | rfl | (simp; done) | (simp [*]; done)), (by first | rfl | (simp; done) | (simp [*]; done)), H', ⟨Nat.le_refl _⟩, ⟨by repeat (first | (with_reducible first | exact HB.out | apply za | apply ma | apply ib) | exact HB.out)⟩⟩
 case round =>
  clear H'
  obtain ⟨x0_1, x5_1, rfl, rfl, HA, HK1, HB⟩ := hrel
  cases gk with
  | zero => exact absurd HA.out (by simp [zf.l0])
  | succ k1 =>
   have H := HA.out
   clear HA
   simp only [zf.l0] at H
   by_cases c3 : x5_1 < (l1.length : Int)
   ·rw [if_pos c3] at H
    have c3b0 : decide (x5_1 < (l1.length : Int)) = true := decide_eq_true c3
    clear c3
    by_cases c4 : x0_1.size + 1 ≤ 9223372036854775807
    ·rw [if_pos c4] at H
     have c4b0 := eq_true c4
     have c4b1 : decide (x0_1.size + 1 ≤ 9223372036854775807) = true := decide_eq_true c4
     try have c4b2 : (9223372036854775807 < x0_1.size + 1) = False := eq_false (Nat.not_lt.2 c4)
     by_cases c5 : 0 ≤ x5_1
     ·rw [if_pos c5] at H
      have c5b0 : decide (0 ≤ x5_1) = true := decide_eq_true c5
      clear c5
      replace H := Option.bind_eq_some_iff.mp H
      obtain ⟨t111, A60, H⟩ := H
      replace H : (if (x0_1 ++ (⟨#[32]⟩ : ByteArray)).size + t111.size ≤ 9223372036854775807 then (zf.l0 k1 ((x0_1 ++ (⟨#[32]⟩ : ByteArray)) ++ t111) l1 (wrap64 (x5_1 + 1))) else (none)) = some r := H
      have A6 := aa.mk A60
      clear A60
      by_cases c7 : (x0_1 ++ (⟨#[32]⟩ : ByteArray)).size + t111.size ≤ 9223372036854775807
      ·rw [if_pos c7] at H
       have c7b0 := eq_true c7
       have c7b1 : decide ((x0_1 ++ (⟨#[32]⟩ : ByteArray)).size + t111.size ≤ 9223372036854775807) = true := decide_eq_true c7
       try have c7b2 : (9223372036854775807 < (x0_1 ++ (⟨#[32]⟩ : ByteArray)).size + t111.size) = False := eq_false (Nat.not_lt.2 c7)
       have c7s : (x0_1 ++ (⟨#[32]⟩ : ByteArray)).size = x0_1.size + 1 := by rw [ByteArray.size_append]; rfl
       have c7b3 : x0_1.size + 1 + t111.size ≤ 9223372036854775807 := by rw [← c7s]; exact c7
       clear c7s
       have H' := aa.mk H
       clear H
       have p110 : 0 ≤ (x5_1 : Int) := of_decide_eq_true (by first | (with_reducible assumption) | assumption)
       have q110 : x5_1 < (l1.length : Int) := of_decide_eq_true (by first | (with_reducible assumption) | assumption)
       obtain ⟨ad110, e110, hx110_0⟩ := Kd.kG HR1.out x5_1 p110 q110
       cases e110
       replace hx110_0 := (HB.out.cell (World.block_lt_of_cell? w _ hx110_0)).trans hx110_0
       replace p110 := eq_true p110
       replace q110 := eq_true q110
       go_wp2_with (first | ((with_reducible refine lh (f := 74) rfl ?_); refine oo (some 18) rfl rfl Tryz.func74 (by kernel_rfl) rfl #[.int .i64 (rd l1 x5_1)] rfl (by (try simp only [List.map_toArray, List.map_cons, List.map_nil]); first | done | rfl | (simp only [List.length_drop, List.length_take]; rfl)) ?_; (with_reducible refine (uf.calls k1 (rd l1 x5_1) t111 _ A6.out).mono ?_); rintro e w8 ⟨rfl, hb⟩; refine ⟨_, rfl, ?_⟩; have n0_ := aa.mk (yf (by repeat (first | (with_reducible first | exact HB.out | apply za | apply ma | apply ib) | exact HB.out)) hb); clear HB; have HB := n0_; clear n0_; (try clear hb); (try clear hb2); (try clear hk); (try clear hi)))
       go_roundg k1
       case measure => have := HK1.out; omega
       case rel => exact ⟨((x0_1 ++ (⟨#[32]⟩ : ByteArray)) ++ t111), (wrap64 (x5_1 + 1)), (by first | rfl | (simp; done) | (simp [*]; done)), (by first | rfl | (simp; done) | (simp [*]; done)), H', ⟨by have := HK1.out; omega⟩, ⟨by repeat (first | (with_reducible first | exact HB.out | apply za | apply ma | apply ib) | exact HB.out)⟩⟩
      ·rw [if_neg c7] at H
       exact absurd H (by simp)
     ·rw [if_neg c5] at H
      exact absurd H (by simp)
    ·rw [if_neg c4] at H
     exact absurd H (by simp)
   ·rw [if_neg c3] at H
    have c3b0 : decide (x5_1 < (l1.length : Int)) = false := decide_eq_false c3
    clear c3
    obtain rfl := Option.some.inj H
    go_wp2
    go_ret
    exact ⟨by first | rfl | (simp [jh, dh] <;> rfl) | (simp [*, jh, dh] <;> rfl), by repeat (first | (with_reducible first | exact HB.out | apply za | apply ma | apply ib) | exact HB.out)⟩
end
end Go.Proofs.YtcbeheaiblgpfaaGreatDoor.Ask
end
