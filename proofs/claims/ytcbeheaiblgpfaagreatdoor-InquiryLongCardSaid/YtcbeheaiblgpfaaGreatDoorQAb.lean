/- The law InquiryLong: part Ab. -/
import Derived.Test.YtcbeheaiblgpfaaGreatDoorQAa
set_option linter.unusedVariables false
set_option linter.unusedSimpArgs false
noncomputable section
namespace Go.Proofs.YtcbeheaiblgpfaaGreatDoor.Ask
open Go.RowKit Go.Proofs.YtcbeheaiblgpfaaGreatDoorW.PrintWords Go.Proofs.YtcbeheaiblgpfaaGreatDoorW.PrintLast Go.Proofs.YtcbeheaiblgpfaaGreatDoorW.PrintMore
def vB : List (List Int) → List UInt8
 | [] => []
 | l :: r => [32, 124] ++ jo l ++ vB r
def fM (l0 : List Int) (l1 : List (List Int)) : List UInt8 := jo l0 ++ vB l1
def mG : List (List Int) → List UInt8
 | [] => []
 | l :: r => jo l ++ vB r
theorem oad (r s : List (List Int)) : vB (r ++ s) = vB r ++ vB s := by
 induction r with
 | nil => rfl
 | cons l r ih => rw [List.cons_append, vB, vB, ih]; simp only [List.append_assoc]
theorem yao (l : List (List Int)) (k : Nat) (h : k < l.length) : mG (l.take (k + 1)) = mG (l.take k) ++ (if k = 0 then jo l[k] else [32, 124] ++ jo l[k]) := by
 rw [List.take_succ_eq_append_getElem h]
 cases k with
 | zero =>
  rw [if_pos rfl]
  show mG ([] ++ [l[0]]) = mG [] ++ jo l[0]
  simp [mG, vB]
 | succ k =>
  rw [if_neg (by omega)]
  cases l with
  | nil => simp at h
  | cons x l =>
   rw [List.take_succ_cons, List.cons_append, mG, mG, oad, List.append_assoc]
   simp [vB]
theorem yaa (r : List (List Int)) (h : ∀ l ∈ r, l.length ≤ 3000 ∧ ∀ n ∈ l, Num n) : (vB r).length ≤ 42002 * r.length := by
 induction r with
 | nil => exact Nat.le_refl _
 | cons l r ih =>
  have h1 := h l (List.mem_cons_self ..)
  have h2 := aC l h1.2
  have h3 := ih fun m hm => h m (List.mem_cons_of_mem _ hm)
  simp only [vB, List.length_append, List.length_cons, List.length_nil]
  omega
theorem uat (r : List (List Int)) (h : ∀ l ∈ r, l.length ≤ 3000 ∧ ∀ n ∈ l, Num n) : (mG r).length ≤ 42002 * r.length := by
 cases r with
 | nil => exact Nat.le_refl _
 | cons l r =>
  have h1 := h l (List.mem_cons_self ..)
  have h2 := aC l h1.2
  have h3 := yaa r fun m hm => h m (List.mem_cons_of_mem _ hm)
  simp only [mG, List.length_append, List.length_cons]
  omega
theorem iA {n : Int} (h : um n = true) : Num n := by
 unfold um at h
 simp at h
 exact ⟨h.1, h.2⟩
def qJ (l0 : List Int) (l1 : List (List Int)) : Bool := decide (2000 < l0.length) || decide (400 < l1.length) || (l0 :: l1).any fun l => decide (2000 < l.length)
def uF (l0 : List Int) (l1 : List (List Int)) : Bool := (l0 :: l1).all fun l => l.all um
def ji (l0 : List Int) (l1 : List (List Int)) : ByteArray × Int :=
 if qJ l0 l1 then (⟨#[]⟩, 2) else if uF l0 l1 then (⟨(Lib.trimPrefix (fM l0 l1) [32]).toArray⟩, 0) else (⟨#[]⟩, 1)
theorem laJ {w : World} {A : Option Addr} {l : List (List Int)} (h : Kd.C (Kd.slice 3 (Kd.int .i64)) w A l.length l) :
  ∃ vs : List Value, Raw w A l.length vs ∧ ∀ (j : Nat) (x : List Int), l[j]? = some x → ∃ (B : Option Addr) (c : Nat), vs[j]? = some (Value.slice B x.length c) ∧ x.length ≤ c ∧ Kd.C (Kd.int .i64) w B x.length x := by
 obtain ⟨h1, h2, h3⟩ := h
 by_cases h0 : l.length = 0
 ·have hl : l = [] := List.length_eq_zero_iff.1 h0
  subst hl
  exact ⟨[], ⟨rfl, fun _ => rfl, fun ad _ j u hj => by simp at hj, fun u hu => by cases hu⟩, fun j x hj => by simp at hj⟩
 ·obtain ⟨ad, hA, hc⟩ := h3 (by omega)
  have key : ∀ (j : Nat) (x : List Int), l[j]? = some x → ∃ (B : Option Addr) (c : Nat), w.cell? (ad.add j) = some (Value.slice B x.length c) ∧ x.length ≤ c ∧ Kd.C (Kd.int .i64) w B x.length x := by
   intro j x hx
   obtain ⟨cs, _, ⟨B, c, rfl, h4, h5⟩, h6⟩ := hc j x hx
   have := h6 0 _ rfl
   rw [show (Kd.slice 3 (Kd.int .i64)).sz = 1 from rfl, Nat.mul_one, Nat.add_zero] at this
   exact ⟨B, c, this, h4, h5⟩
  refine ⟨(List.range l.length).map fun j => (w.cell? (ad.add j)).getD undef, ⟨by simp, (fun e => by rw [hA] at e; cases e), fun ad' e j u hj => ?_, fun u hu => ?_⟩, fun j x hx => ?_⟩
  ·rw [hA] at e
   cases e
   rw [List.getElem?_map] at hj
   have hjl : j < l.length := by
    rcases Nat.lt_or_ge j l.length with h | h
    ·exact h
    ·rw [List.getElem?_eq_none (by simpa using h)] at hj; cases hj
   rw [List.getElem?_range hjl, Option.map_some] at hj
   obtain ⟨B, c, h4, _⟩ := key j l[j] (List.getElem?_eq_getElem hjl)
   rw [h4] at hj ⊢
   exact hj
  ·obtain ⟨j, hj, rfl⟩ := List.mem_map.1 hu
   have hjl : j < l.length := List.mem_range.1 hj
   obtain ⟨B, c, h4, _⟩ := key j l[j] (List.getElem?_eq_getElem hjl)
   rw [h4]
   rfl
  ·obtain ⟨B, c, h4, h5⟩ := key j x hx
   have hjl : j < l.length := (List.getElem?_eq_some_iff.1 hx).1
   refine ⟨B, c, ?_, h5⟩
   rw [List.getElem?_map, List.getElem?_range hjl, Option.map_some, h4]
   rfl
theorem vau {w : World} {g n cap base : Nat} {vs : List Value} (h : w.ownsRow base 23 1 (.slice (some ⟨g, 0, none⟩) n cap) n vs) (j : Nat) (hj : j < n) : w.cell? ⟨g, j, none⟩ = vs[j]? := h.cellAt j (by omega)
theorem maf {W : World} {k i : Nat} {cs : Array Value} {t : TypeId} {v : Value} (h : k = W.heap.size) (hv : cs[i]? = some v) : (W.alloc (.cells cs t (0, 0))).cell? ⟨k, i, none⟩ = some v := by
 subst h
 exact (qd (pV _ _) i).trans hv
theorem wau {W : World} {v : Value} {k : Nat} {o : Obj} (h : k = W.heap.size) (h1 : v.oneCell' = true) : Raw ((W.alloc (.cells #[v] 23 (0, 0))).alloc o) (some ⟨k, 0, none⟩) 1 [v] :=
 ⟨rfl, by simp, fun ad e j u hj => by
  cases e
  subst h
  have hl : W.heap.size < (W.alloc (.cells #[v] 23 (0, 0))).heap.size := by simp
  have h2 : ((W.alloc (.cells #[v] 23 (0, 0))).alloc o).heap[W.heap.size]? = some (.cells #[v] 23 (0, 0)) := (Below.heap_alloc _ o _ hl).trans (pV _ _)
  rw [show (⟨W.heap.size, 0, none⟩ : Addr).add j = ⟨W.heap.size, j, none⟩ from (by simp [Addr.add]; intro h; exact h.symm), qd h2]
  simpa using hj, fun u hu => by rw [List.mem_singleton.1 hu]; exact h1⟩
set_option maxHeartbeats 4000000 in
set_option maxRecDepth 100000 in
theorem lF (A0 : Option Addr) (c0 : Nat) (l0 : List Int) (A1 : Option Addr) (c1 : Nat) (l1 : List (List Int)) (w : World) (G : Gl w) (hr0 : Kd.C (Kd.int .i64) w A0 l0.length l0) (hc0 : l0.length ≤ c0)
  (hr1 : Kd.C (Kd.slice 3 (Kd.int .i64)) w A1 l1.length l1) (hc1 : l1.length ≤ c1) (b0 : l0.length ≤ 3000) (b1 : l1.length ≤ 1000) (b2 : ∀ l ∈ l1, l.length ≤ 3000) :
  Calls Tryz.prog 5 #[.agg #[.slice A0 l0.length c0, .slice A1 l1.length c1]] w fun e w' => e = .returned (.tuple #[.string (ji l0 l1).1, .int .i64 (ji l0 l1).2]) ∧ Below w.heap.size w w' := by
 obtain ⟨vs1, HR1, HV1⟩ := laJ hr1
 have R1 := aa.mk HR1
 have V1 := aa.mk HV1
 have R0 := aa.mk hr0
 have HG := aa.mk G
 have HB2 := aa.mk b2
 clear HR1 HV1 hr0 hr1 G b2
 obtain ⟨lim, hlim⟩ : ∃ b : Bool, b = (decide (2000 < l0.length) || decide (400 < l1.length)) := ⟨_, rfl⟩
 have HL := aa.mk hlim
 clear hlim
 go_enter Tryz.func5, Tryz.ntmps5
 go_upto_region 1 with (fail)
 go_cut [4] (fun v4 wc => v4 = .bool lim ∧ wc = w.alloc (.cells #[.slice A0 l0.length c0, .slice A1 l1.length c1] 26 (0, 0)))
 case first =>
  by_cases h1 : 2000 < l0.length
  ·have h1d : decide (2000 < (l0.length : Int)) = true := decide_eq_true (by omega)
   go_wp2
   go_meet
   case rel => exact ⟨by rw [HL.out, decide_eq_true h1]; rfl, rfl⟩
  ·have h1d : decide (2000 < (l0.length : Int)) = false := decide_eq_false (by omega)
   go_wp2
   go_meet
   case rel => exact ⟨by rw [HL.out, decide_eq_false h1]; simp; omega, rfl⟩
 case rest =>
  obtain ⟨rfl, rfl⟩ := hcut
  go_upto_region 4 with (fail)
  go_at_call 24
  refine (cad _ (some ⟨w.heap.size + 1, 0, none⟩) 1 1 A1 l1.length c1 [.slice A0 l0.length c0] vs1 _ ?k0 ?k1 ?r0 ?r1 (by omega) (by omega)).mono ?_
  case k0 => exact maf (by simp) rfl
  case k1 => exact maf (by simp) rfl
  case r0 => exact wau (by simp) rfl
  case r1 => exact R1.out.below (za (za (za (Below.refl _ _) _) _) _)
  rintro e w2 ⟨g, cap, rfl, hc1, hc2, hown, hb⟩
  have HO := aa.mk hown
  have HB := aa.mk (yf (za (za (za (Below.refl w.heap.size w) _) _) _) hb)
  have HC1 := aa.mk hc1
  have HC2 := aa.mk hc2
  clear hown hb hc1 hc2
  have FA : aa (∀ (j : Nat) (x : List Int), (l0 :: l1)[j]? = some x → ∃ (B : Option Addr) (c : Nat), w2.cell? ⟨g, j, none⟩ = some (Value.slice B x.length c) ∧ x.length ≤ c ∧ Kd.C (Kd.int .i64) w2 B x.length x) := ⟨by
   intro j x hx
   have hj : j < 1 + l1.length := by
    have := (List.getElem?_eq_some_iff.1 hx).1
    rw [List.length_cons] at this
    omega
   rw [vau HO.out j hj]
   cases j with
   | zero =>
    simp only [List.getElem?_cons_zero, Option.some.injEq] at hx
    subst hx
    exact ⟨A0, c0, rfl, hc0, Kd.zw R0.out HB.out⟩
   | succ j =>
    rw [List.getElem?_cons_succ] at hx
    obtain ⟨B, c, h1, h2, h3⟩ := V1.out j x hx
    exact ⟨B, c, h1, h2, Kd.zw h3 HB.out⟩⟩
  have hlen : (1 + l1.length) ≤ 2000 := by omega
  have HLA : (l0 :: l1).length = 1 + l1.length := by rw [List.length_cons]; omega
  have FL : aa (∀ l ∈ l0 :: l1, l.length ≤ 3000) := ⟨by
   intro l hl
   rcases List.mem_cons.1 hl with h | h
   ·rw [h]; exact b0
   ·exact HB2.out _ h⟩
  obtain ⟨al, hal⟩ : ∃ al, al = l0 :: l1 := ⟨_, rfl⟩
  rw [← hal] at FA HLA FL
  have HAL := aa.mk hal
  clear hal
  obtain ⟨na, hna⟩ : ∃ na, na = 1 + l1.length := ⟨_, rfl⟩
  rw [← hna] at HO hlen HLA HC1 ⊢
  have HA := aa.mk HLA
  have HNA := aa.mk hna
  clear HLA hna
  go_wp2
  clear HO
  go_loop [4, 5, 31] (fun v4 v5 v31 => ∃ (k : Nat) (b4 b5 : Bool), k ≤ na ∧ v31 = .int .i64 k ∧ v4 = .bool b4 ∧ v5 = .bool b5 ∧ aa (b4 = (lim || (al.take k).any fun l => decide (2000 < l.length))) ∧ aa (b5 = (al.take k).all fun l => l.all um)) (fun _ _ v31 => na - (intOf v31).toNat)
  case atStart => exact ⟨0, lim, true, Nat.zero_le _, rfl, rfl, rfl, ⟨by simp⟩, ⟨rfl⟩⟩
  case round =>
   obtain ⟨k, b4, b5, hk, rfl, rfl, rfl, H4, H5⟩ := hrel
   by_cases hlt : k < na
   ·have hka : k < al.length := by have := HA.out; omega
    obtain ⟨B, c, hx1, hx2, hx3⟩ := FA.out k al[k] (List.getElem?_eq_getElem hka)
    obtain ⟨x, hxk⟩ : ∃ x, x = al[k] := ⟨_, rfl⟩
    rw [← hxk] at hx1 hx2 hx3
    have HX := aa.mk hxk
    have HX3 := aa.mk hx3
    have hxl : x.length ≤ 3000 := by rw [HX.out]; exact FL.out _ (List.getElem_mem hka)
    have T4 : aa ((lim || (al.take (k + 1)).any fun l => decide (2000 < l.length)) = (b4 || decide (2000 < x.length))) := ⟨by rw [List.take_succ_eq_append_getElem hka, ← HX.out, H4.out]; simp [Bool.or_assoc]⟩
    have T5 : aa (((al.take (k + 1)).all fun l => l.all um) = (b5 && x.all um)) := ⟨by rw [List.take_succ_eq_append_getElem hka, ← HX.out, H5.out]; simp⟩
    clear hxk hx3
    have hgs : decide ((k : Int) < (na : Int)) = true := decide_eq_true (by omega)
    obtain ⟨bx, hbx⟩ : ∃ b : Bool, b = decide (2000 < x.length) := ⟨_, rfl⟩
    rw [← hbx] at T4
    have hbx' : decide (2000 < (x.length : Int)) = bx := by rw [hbx]; simp only [decide_eq_decide]; omega
    have HBX := aa.mk hbx
    clear hbx
    cases b4 <;> cases b5
    all_goals
     go_wp2_with (go_at_call 25; refine (kN B c x _ HX3.out).mono ?_; rintro e w4 ⟨rfl, rfl⟩)
     go_round
     case rel => exact ⟨k + 1, _, _, hlt, by go_num, rfl, rfl, ⟨by rw [T4.out]; simp⟩, ⟨by rw [T5.out]; simp⟩⟩
     case measure => simp [intOf]; omega
   ·obtain rfl : k = na := by omega
    have hta : al.take k = al := List.take_of_length_le (by rw [HA.out]; exact Nat.le_refl _)
    rw [hta] at H4 H5
    have HW4 : aa (b4 = qJ l0 l1) := ⟨by rw [H4.out, HL.out, HAL.out]; rfl⟩
    have HW5 : aa (b5 = uF l0 l1) := ⟨by rw [H5.out, HAL.out]; rfl⟩
    clear hta H4 H5
    cases b4 with
    | true =>
     go_wp2
     go_ret2
     refine ⟨?_, HB.out⟩
     unfold ji
     rw [← HW4.out]
     rfl
    | false =>
     cases b5 with
     | false =>
      go_wp2
      go_ret2
      refine ⟨?_, HB.out⟩
      unfold ji
      rw [← HW4.out, ← HW5.out]
      rfl
     | true =>
      go_wp2
      have HNum : aa (∀ l ∈ al, ∀ n ∈ l, Num n) := ⟨by
       have h := HW5.out
       unfold uF at h
       rw [← HAL.out] at h
       intro l hl n hn
       exact iA (List.all_eq_true.1 (List.all_eq_true.1 h.symm l hl) n hn)⟩
      go_loopw [55] (fun v55 wr => ∃ j : Nat, j ≤ k ∧ v55 = .int .i64 j ∧ aa (Lib.IsBuilder 98 5 w2.heap.size w2.heap.size (Lib.byteCells (mG (al.take j))) wr) ∧ aa (Below w2.heap.size w2 wr)) (fun v55 _ => k - (intOf v55).toNat)
      case atStart => exact ⟨0, Nat.zero_le _, rfl, ⟨Lib.fresh_isBuilder 98 5 w2⟩, ⟨za (Below.refl _ _) _⟩⟩
      case round =>
       obtain ⟨j, hj, rfl, HI, HBB⟩ := hrel
       by_cases hlt : j < k
       ·have hka : j < al.length := by have := HA.out; omega
        obtain ⟨B, c, hx1, hx2, hx3⟩ := FA.out j al[j] (List.getElem?_eq_getElem hka)
        have HST := aa.mk (yao al j hka)
        obtain ⟨x, hxk⟩ : ∃ x, x = al[j] := ⟨_, rfl⟩
        rw [← hxk] at hx1 hx2 hx3 HST
        have hmem : x ∈ al := by rw [hxk]; exact List.getElem_mem hka
        have HXL := aa.mk (FL.out x hmem)
        have HXN := aa.mk (HNum.out x hmem)
        have hx1' := (HBB.out.cell (World.block_lt_of_cell? w2 _ hx1)).trans hx1
        have HX0 := aa.mk hx3
        have HLP := aa.mk (uat (al.take j) (fun l hl => ⟨FL.out l (List.mem_of_mem_take hl), HNum.out l (List.mem_of_mem_take hl)⟩))
        have HLJ := aa.mk (aC x (HNum.out x hmem))
        have HJK := aa.mk hj
        have HNK := aa.mk (show k ≤ 1001 from by have := HNA.out; omega)
        clear hxk hx3 hx1 hmem
        have HZ1 : aa ((Lib.byteCells (mG (al.take j))).length + (⟨(jo x).toArray⟩ : ByteArray).size ≤ 140737488355328) := ⟨by
         have h1 := HLP.out
         have h2 := HLJ.out
         have h3 := HXL.out
         have h4 := HJK.out
         have h5 := HNK.out
         rw [List.length_take] at h1
         rw [Lib.byteCells_length]
         show _ + (jo x).toArray.size ≤ _
         rw [List.size_toArray]
         omega⟩
        have HZ2 : aa ((Lib.byteCells (mG (al.take j))).length + (⟨#[32, 124]⟩ : ByteArray).size ≤ 140737488355328) := ⟨by
         have h1 := HLP.out
         have h4 := HJK.out
         have h5 := HNK.out
         rw [List.length_take] at h1
         rw [Lib.byteCells_length]
         show _ + 2 ≤ _
         omega⟩
        have HZ3 : aa ((Lib.byteCells (mG (al.take j)) ++ Lib.strCells (⟨#[32, 124]⟩ : ByteArray)).length + (⟨(jo x).toArray⟩ : ByteArray).size ≤ 140737488355328) := ⟨by
         have h1 := HLP.out
         have h2 := HLJ.out
         have h3 := HXL.out
         have h4 := HJK.out
         have h5 := HNK.out
         rw [List.length_take] at h1
         rw [List.length_append, Lib.byteCells_length, Lib.strCells_length]
         show _ + 2 + (jo x).toArray.size ≤ _
         rw [List.size_toArray]
         omega⟩
        have hgs : decide ((j : Int) < (k : Int)) = true := decide_eq_true (by omega)
        by_cases hj0 : j = 0
        ·subst hj0
         go_wp2_with fail
         go_at_call 29
         refine (fP B c x _ (HG.out.below (yf HB.out HBB.out)) (Kd.zw HX0.out HBB.out) HXL.out HXN.out).mono ?_
         rintro e w4 ⟨rfl, hb⟩
         have HI2 := aa.mk (vR HI.out hb)
         have HBB2 := aa.mk (yf HBB.out hb)
         clear hb
         go_wp2_with fail
         go_at_call 28
         refine (writeString w2.heap.size w2.heap.size _ _ _ HI2.out HZ1.out (qf HBB2.out)).mono ?_
         rintro e w5 ⟨rfl, hbd, hb3⟩
         have HBD := aa.mk hbd
         have HB3 := aa.mk (HBB2.out.trans hb3)
         clear hbd hb3
         go_wp2
         go_roundw
         case rel =>
          refine ⟨1, by omega, by go_num, ⟨Or.inr ?_⟩, HB3⟩
          rw [HST.out, if_pos (by first | trivial | rfl), Lib.byteCells_append]
          exact HBD.out
         case measure => simp [intOf]; omega
        ·have hgt : 0 < j := by omega
         have HJ0 := aa.mk hj0
         clear hj0
         go_wp2_with fail
         go_at_call 28
         refine (writeString w2.heap.size w2.heap.size _ _ _ HI.out HZ2.out (qf HBB.out)).mono ?_
         rintro e w5 ⟨rfl, hbd, hb3⟩
         have HBD := aa.mk hbd
         have HB3 := aa.mk (HBB.out.trans hb3)
         clear hbd hb3
         go_wp2_with fail
         go_at_call 29
         refine (fP B c x _ (HG.out.below (yf HB.out HB3.out)) (Kd.zw HX0.out HB3.out) HXL.out HXN.out).mono ?_
         rintro e w6 ⟨rfl, hb⟩
         have HI2 := aa.mk (vR (Or.inr HBD.out) hb)
         have HBB2 := aa.mk (yf HB3.out hb)
         clear hb
         go_wp2_with fail
         go_at_call 28
         refine (writeString w2.heap.size w2.heap.size _ _ _ HI2.out HZ3.out (qf HBB2.out)).mono ?_
         rintro e w7 ⟨rfl, hbd, hb3⟩
         have HBD2 := aa.mk hbd
         have HB4 := aa.mk (HBB2.out.trans hb3)
         clear hbd hb3
         go_wp2
         go_roundw
         case rel =>
          refine ⟨j + 1, hlt, by go_num, ⟨Or.inr ?_⟩, HB4⟩
          rw [HST.out, if_neg HJ0.out, Lib.byteCells_append, Lib.byteCells_append, ← List.append_assoc]
          exact HBD2.out
         case measure => simp [intOf]; omega
       ·obtain rfl : j = k := by omega
        have hta : al.take j = al := List.take_of_length_le (by rw [HA.out]; exact Nat.le_refl _)
        rw [hta] at HI
        have HW : aa ((⟨(Lib.trimPrefix (mG al) [32]).toArray⟩ : ByteArray) = (ji l0 l1).1 ∧ (ji l0 l1).2 = 0) := ⟨by
         unfold ji
         rw [← HW4.out, ← HW5.out, HAL.out]
         exact ⟨rfl, rfl⟩⟩
        clear hta
        go_wp2_with fail
        go_at_call 31
        refine (Tryz.Builder_String_any w2.heap.size w2.heap.size (mG al) _ HI.out (qf HBB.out)).mono ?_
        rintro e w5 ⟨rfl, hb⟩
        have HBL := aa.mk (yf HB.out ((HBB.out.trans hb)))
        clear hb
        go_wp2_with (go_at_call 30; refine (Tryz.strings_TrimPrefix _ _ _).mono ?_; rintro e w6 ⟨rfl, rfl⟩)
        go_ret2
        refine ⟨?_, HBL.out⟩
        rw [← HW.out.1, HW.out.2]
        rfl
end Go.Proofs.YtcbeheaiblgpfaaGreatDoor.Ask
end
