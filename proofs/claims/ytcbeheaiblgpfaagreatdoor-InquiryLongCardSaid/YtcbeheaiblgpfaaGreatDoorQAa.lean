/- The law InquiryLong: part Aa. -/
import Derived.Test.YtcbeheaiblgpfaaGreatDoorProg
import Derived.Below
import Derived.Deep.Draws
import Derived.Deep.AppendLies
import Derived.Maps.AppendAt
import Derived.OwnWalk
import Derived.Laws.BytesArg
import Derived.Laws.MakeOwn
import Derived.Laws.OwnMore
import Derived.Deep.OwnRows
import Derived.Tactics
import Derived.Lib.ConvBytes
import Derived.Laws.Slices
import Derived.WalkKit
import Derived.KernelRfl
import Derived.RowKit3
import Derived.Deep.LoopGhost
import Derived.Deep.QuietTactic
import Derived.BigQuiet
import Derived.WideLaws
import Derived.Deep.DeepCutAuto
import Derived.Deep.CutBlock
import Derived.Deep.RegionHeld3
import Derived.Laws.Rows
import Derived.Lib.AppendStr
import Derived.ArgAppend
import Derived.Laws.IdiomCopy
import Derived.OrdersHeld
import Derived.Laws.BitsLemmas
import Derived.RowKit
import Derived.Lib.LaidTab
import Derived.Lib.ItoaNum
import Derived.Lib.ItoaLen
import Derived.Lib.Atoi
import Derived.Lib.AtoiAll
import Derived.Lib.AtoiTie
import Derived.Lib.AtoiErrMem
import Derived.Lib.SplitLaws
import Derived.Lib.SliceRun
import Derived.Lib.AppendZerosOnto
import Derived.Test.YtcbeheaiblgpfaaGreatDoorQEm
import Derived.Test.YtcbeheaiblgpfaaGreatDoorQWa
import Derived.Test.YtcbeheaiblgpfaaGreatDoorQWb
set_option linter.unusedVariables false
set_option linter.unusedSimpArgs false
noncomputable section
namespace Go.Proofs.YtcbeheaiblgpfaaGreatDoor.Ask
open Go.RowKit Go.Proofs.YtcbeheaiblgpfaaGreatDoorW.PrintWords Go.Proofs.YtcbeheaiblgpfaaGreatDoorW.PrintLast Go.Proofs.YtcbeheaiblgpfaaGreatDoorW.PrintMore
def baa : Array Value := #[.int .u64 1, .int .u64 10, .int .u64 100, .int .u64 1000, .int .u64 10000, .int .u64 100000, .int .u64 1000000, .int .u64 10000000, .int .u64 100000000, .int .u64 1000000000, .int .u64 10000000000, .int .u64 100000000000, .int .u64 1000000000000, .int .u64 10000000000000, .int .u64 100000000000000, .int .u64 1000000000000000, .int .u64 10000000000000000, .int .u64 100000000000000000, .int .u64 1000000000000000000, .int .u64 10000000000000000000]
structure Gl (w : World) : Prop where
 max : ∃ m : Int, w.cell? ⟨0, 0, none⟩ = some (.int .i64 m)
 pow : ∃ fr, w.heap[3]? = some (.cells baa 744 fr)
 big : 8 ≤ w.heap.size
theorem Gl.below {w w' : World} (h : Gl w) (hb : Below w.heap.size w w') : Gl w' := by
 obtain ⟨⟨m, h1⟩, ⟨fr, h2⟩, h3⟩ := h
 exact ⟨⟨m, (hb.cell (p := ⟨0, 0, none⟩) (by show 0 < _; omega)).trans h1⟩, ⟨fr, (hb.block 3 (by omega)).trans h2⟩, Nat.le_trans h3 hb.size⟩
theorem Gl.tab {w : World} (h : Gl w) : Lib.TabIs Tryz.prog w "internal/strconv.uint64pow10" .u64 Lib.pow10Tab := by
 obtain ⟨_, ⟨fr, h2⟩, _⟩ := h
 unfold Lib.TabIs World.var?
 rw [show Tryz.prog.globalNamed "internal/strconv.uint64pow10" = some 3 by kernel_rfl]
 show (match w.heap[3]? with | some (.cells cs _ _) => some cs | _ => none) = _
 rw [h2]
 rfl
theorem qaj (B : Nat) (w : World) (hB : B ≤ w.heap.size) (k : Nat) (os : Array Obj) : Below B w (Go.Sort.grow (w.drewN k) os) :=
 ⟨rfl, rfl, rfl, by show w.heap.size ≤ (w.heap ++ os).size; simp, fun i hi => by show (w.heap ++ os)[i]? = w.heap[i]?; rw [Array.getElem?_append_left (by omega)]⟩
theorem rX (n : Int) (w : World) (G : Gl w) (h0 : -9223372036854775808 ≤ n) (h1 : n ≤ 9223372036854775807) :
  Calls Tryz.prog 71 #[.int .i64 n] w fun e w' => e = .returned (.string ⟨(Lib.itoa n).toArray⟩) ∧ Below w.heap.size w w' :=
 (Tryz.strconv_Itoa n h0 h1 w G.tab).mono fun _ _ ⟨h1, k, os, h2⟩ => ⟨h1, by rw [h2]; exact qaj _ w (Nat.le_refl _) k os⟩
set_option maxHeartbeats 1000000 in
set_option maxRecDepth 100000 in
theorem kY (b : Nat) (w : World) (h0 : w.cell? ⟨b, 0, none⟩ = some (.pointer (some ⟨b, 0, none⟩))) :
  Calls Tryz.prog 70 #[.pointer (some ⟨b, 0, none⟩)] w fun e w' => e = .returned (.tuple #[]) ∧ w' = w := by
 obtain ⟨j, hj, _⟩ := Option.map_eq_some_iff.1 Tryz.tu.sizeBuilder
 go_enter Tryz.func70, Tryz.ntmps70
 go_wp2
 rw [Lib.run_neq_ptr_same w _ Tryz.underlying95 hj]
 go_wp2
 go_end0
 exact ⟨rfl, rfl⟩
set_option maxHeartbeats 1000000 in
set_option maxRecDepth 100000 in
theorem uU (b : Nat) (w : World) (h0 : w.cell? ⟨b, 0, none⟩ = some (.pointer none)) (hsh : w.shape? b = some (98, 2)) (hfz : w.frozen? ⟨b, 0, none⟩ = false) :
  Calls Tryz.prog 70 #[.pointer (some ⟨b, 0, none⟩)] w fun e w' => e = .returned (.tuple #[]) ∧ w' = w.setCell ⟨b, 0, none⟩ (.pointer (some ⟨b, 0, none⟩)) := by
 obtain ⟨j, hj, hjs⟩ := Option.map_eq_some_iff.1 Tryz.tu.sizeBuilder
 go_enter Tryz.func70, Tryz.ntmps70
 go_wp2
 rw [Lib.run_to_unsafe w ⟨b, 0, none⟩ Tryz.underlying95 Tryz.underlying272 hj (by rw [hjs]; decide) hsh (Nat.zero_lt_succ 1)]
 simp only [Result.andThen]
 rw [Oper.upon_value]
 go_wp2
 rw [run_callFunc_extern Tryz.func137 (by kernel_rfl) (by kernel_rfl) (by kernel_rfl) (e := Extern.AbiNoEscape.same) (by kernel_rfl)]
 rw [Lib.run_noEscape]
 simp only [Result.andThen]
 rw [Oper.upon_value]
 go_wp2
 rw [Lib.run_from_unsafe w ⟨b, 0, none⟩ Tryz.underlying272 Tryz.underlying95 hj hsh Tryz.tu.liesBuilder]
 simp only [Result.andThen]
 rw [Oper.upon_value]
 go_wp2
 go_end0
 exact ⟨rfl, rfl⟩
theorem copyCheck (B b : Nat) (bs : List Value) (w : World) (h : Lib.IsBuilder 98 5 B b bs w) :
  Calls Tryz.prog 70 #[.pointer (some ⟨b, 0, none⟩)] w fun e w' => e = .returned (.tuple #[]) ∧ (Lib.BuilderAt 98 5 B b (.pointer (some ⟨b, 0, none⟩)) bs w' ∧ Below B w w') := by
 rcases h with h | h
 ·refine (uU b w h.cell0 h.shape h.frozen0).mono ?_
  rintro e w' ⟨rfl, rfl⟩
  exact ⟨rfl, h.used _, (Below.refl B w).setCell (p := ⟨b, 0, none⟩) h.1 _⟩
 ·refine (kY b w h.cell0).mono ?_
  rintro e w' ⟨rfl, rfl⟩
  exact ⟨rfl, h, Below.refl B _⟩
set_option maxHeartbeats 2000000 in
set_option maxRecDepth 100000 in
theorem writeString (B b : Nat) (bs : List Value) (s : ByteArray) (w : World) (h : Lib.IsBuilder 98 5 B b bs w) (hlen : bs.length + s.size ≤ 140737488355328) (hBw : B ≤ w.heap.size) :
  Calls Tryz.prog 28 #[.pointer (some ⟨b, 0, none⟩), .string s] w fun e w' => e = .returned (.tuple #[.int .i64 s.size, .nilIface]) ∧ (Lib.BuilderAt 98 5 B b (.pointer (some ⟨b, 0, none⟩)) (bs ++ Lib.strCells s) w' ∧ Below B w w') := by
 obtain ⟨i0, hi, hz0, hz1, hz2⟩ := info_parts Tryz.tu.infoByte
 go_enter Tryz.func28, Tryz.ntmps28
 go_wp2_with (go_at_call 70; refine (copyCheck B b bs _ h).mono ?_)
 rintro e w1 ⟨rfl, h1, hb1⟩
 obtain ⟨hB, v, hbk, hown, hne⟩ := h1
 have c0 : w1.cell? ⟨b, 0, none⟩ = some (.pointer (some ⟨b, 0, none⟩)) := by rw [Lib.cell_of_heap hbk]; rfl
 have c1 : w1.cell? ⟨b, 1, none⟩ = some v := by rw [Lib.cell_of_heap hbk]; rfl
 go_wp2_with (at_builtin; refine Lib.wpList_append_own_string _ rfl _ _ 96 9 rfl B 5 i0 Tryz.underlying96 Tryz.underlying9 hi hz0 hz1 hz2 _ _ _ rfl hown s rfl ?c3 ?c4 ?c5 ?_)
 case c3 => unfold maxLen; omega
 case c4 => omega
 case c5 => have := hb1.size; omega
 intro v' w2 hown' hgrow _
 have hlt : b < w1.heap.size := by
  rcases Nat.lt_or_ge b w1.heap.size with h' | h'
  ·exact h'
  ·simp [Array.getElem?_eq_none h'] at hbk
 have hb2 : w2.heap[b]? = some (.cells #[.pointer (some ⟨b, 0, none⟩), v] 98 (0, 0)) := by
  rw [hgrow.block b hlt (fun e => hne e.symm)]
  exact hbk
 have d0 : w2.cell? ⟨b, 0, none⟩ = some (.pointer (some ⟨b, 0, none⟩)) := by rw [Lib.cell_of_heap hb2]; rfl
 have d1 : w2.cell? ⟨b, 1, none⟩ = some v := by rw [Lib.cell_of_heap hb2]; rfl
 have f1 : w2.frozen? ⟨b, 1, none⟩ = false := Lib.frozen_of_heap hb2 1
 obtain ⟨ao, n', cap, rfl⟩ : ∃ ao n' cap, v' = .slice ao n' cap := by
  rcases hown'.2 with ⟨hv, _⟩ | ⟨g, cap, cur, hv, _⟩
  ·exact ⟨_, _, _, hv⟩
  ·exact ⟨_, _, _, hv⟩
 go_wp2
 go_ret2
 refine ⟨rfl, ?_, ?_⟩
 ·exact Lib.BuilderAt.put (T := 98) (e := 5) hB hb2 (bs' := bs ++ Lib.strCells s) (by simpa [Lib.strCells_length] using hown') (by decide)
 ·exact (hb1.grown hgrow (by have := hb1.size; omega) (fun k hk => (hown.lt k hk).1)).setCell (p := ⟨b, 1, none⟩) hB _
end Go.Proofs.YtcbeheaiblgpfaaGreatDoor.Ask
end
noncomputable section
namespace Go.Proofs.YtcbeheaiblgpfaaGreatDoor.Ask
open Go.Lib
theorem eQ {d : Nat} (h : d < 10) : digitVal (UInt8.ofNat (48 + d)) = some d := by
 have : (UInt8.ofNat (48 + d)).toNat = 48 + d := by simp; omega
 unfold digitVal
 rw [this, if_pos (by omega)]
 congr 1; omega
theorem zJ : ∀ (l m : List UInt8) (a : Nat), decFrom a (l ++ m) = (decFrom a l).bind fun b => decFrom b m
 | [], m, a => rfl
 | b :: l, m, a => by
  rw [List.cons_append, decFrom, decFrom]
  cases digitVal b with
  | none => rfl
  | some d => exact zJ l m _
theorem eU (u : Nat) : decFrom 0 (decDigits u) = some u := by
 induction u using Nat.strongRecOn with
 | _ u ih =>
  rw [decDigits]
  by_cases h : u < 10
  ·rw [dif_pos h, decFrom, eQ h]
   simp only [decFrom]
   congr 1; omega
  ·rw [dif_neg h, zJ, ih (u / 10) (by omega), Option.bind_some, decFrom, eQ (by omega)]
   simp only [decFrom]
   congr 1; omega
theorem aak (u : Nat) : decDigits u ≠ [] := by
 intro e
 have := decDigits_length u
 rw [e] at this
 have h := nDigits_pos u
 simp at this
 omega
theorem zac {u : Nat} {b : UInt8} (h : b ∈ decDigits u) : 48 ≤ b.toNat ∧ b.toNat ≤ 57 := by
 induction u using Nat.strongRecOn with
 | _ u ih =>
  rw [decDigits] at h
  by_cases hu : u < 10
  ·rw [dif_pos hu, List.mem_singleton] at h
   subst h
   have : (UInt8.ofNat (48 + u)).toNat = 48 + u := by simp; omega
   omega
  ·rw [dif_neg hu, List.mem_append, List.mem_singleton] at h
   rcases h with h | h
   ·exact ih (u / 10) (by omega) h
   ·subst h
    have : (UInt8.ofNat (48 + u % 10)).toNat = 48 + u % 10 := by simp; omega
    omega
theorem nV {u : Nat} (h : u ≤ 1000000000000) : (decDigits u).length ≤ 13 := by
 rw [decDigits_length]
 have hu : u < 10 ^ 13 := by omega
 have : ∀ k u, u < 10 ^ (k + 1) → nDigits u ≤ k + 1 := by
  intro k
  induction k with
  | zero => intro u h; rw [nDigits_small (by simpa using h)]; exact Nat.le_refl _
  | succ k ih =>
   intro u h
   by_cases h10 : u < 10
   ·rw [nDigits_small h10]; omega
   ·rw [nDigits_big h10]
    have := ih (u / 10) (by rw [Nat.pow_succ] at h; omega)
    omega
 exact this 12 u hu
def Num (n : Int) : Prop := -1 ≤ n ∧ n ≤ 1000000000000
theorem zaa {n : Int} (h : Num n) : atoi (itoa n) = some n := by
 unfold itoa
 by_cases h0 : n < 0
 ·rw [if_pos h0]
  have e : n = -1 := by obtain ⟨h1, h2⟩ := h; omega
  subst e
  show (decNat (decDigits 1)).map _ = _
  unfold decNat
  rw [if_neg (by simp [aak]), eU]
  rfl
 ·rw [if_neg h0]
  cases hd : decDigits n.toNat with
  | nil => exact absurd hd (aak _)
  | cons b r =>
   have hb := zac (u := n.toNat) (b := b) (by rw [hd]; exact List.mem_cons_self ..)
   unfold atoi
   simp only
   rw [if_neg (by intro e; rw [beq_iff_eq] at e; subst e; simp at hb), if_neg (by intro e; rw [beq_iff_eq] at e; subst e; simp at hb)]
   unfold decNat
   rw [if_neg (by simp), ← hd, eU, Option.map_some]
   congr 1; omega
theorem iH {n : Int} (h : Num n) : (itoa n).length ≤ 13 := by
 unfold itoa
 by_cases h0 : n < 0
 ·have e : n = -1 := by obtain ⟨h1, h2⟩ := h; omega
  subst e
  rw [if_pos h0, List.length_cons, show (-1 : Int).natAbs = 1 from rfl, decDigits_one (by decide)]
  decide
 ·rw [if_neg h0]
  exact nV (by obtain ⟨h1, h2⟩ := h; omega)
theorem wav {n : Int} : itoa n ≠ [] := by
 unfold itoa
 split
 ·simp
 ·exact aak _
theorem aag {n : Int} {b : UInt8} (h : b ∈ itoa n) : b = 45 ∨ 48 ≤ b.toNat ∧ b.toNat ≤ 57 := by
 unfold itoa at h
 split at h
 ·rcases List.mem_cons.1 h with h | h
  ·exact .inl h
  ·exact .inr (zac h)
 ·exact .inr (zac h)
theorem yar {n : Int} : itoa n ≠ [124] := by
 intro e
 have := aag (n := n) (b := 124) (by rw [e]; exact List.mem_singleton.2 rfl)
 rcases this with h | h
 ·exact absurd h (by decide)
 ·exact absurd h (by decide)
theorem jaj {n : Int} : (32 : UInt8) ∉ itoa n := by
 intro h
 rcases aag h with h | h
 ·exact absurd h (by decide)
 ·exact absurd h (by decide)
def jo : List Int → List UInt8
 | [] => []
 | n :: l => (32 :: itoa n) ++ jo l
theorem iP (l m : List Int) : jo (l ++ m) = jo l ++ jo m := by
 induction l with
 | nil => rfl
 | cons n l ih => rw [List.cons_append, jo, jo, ih, List.append_assoc]
theorem aC (l : List Int) (h : ∀ n ∈ l, Num n) : (jo l).length ≤ 14 * l.length := by
 induction l with
 | nil => exact Nat.le_refl _
 | cons n l ih =>
  have h1 := iH (h n (List.mem_cons_self ..))
  have h2 := ih fun m hm => h m (List.mem_cons_of_mem _ hm)
  simp only [jo, List.length_append, List.length_cons]
  omega
end Go.Proofs.YtcbeheaiblgpfaaGreatDoor.Ask
end
noncomputable section
namespace Go.Proofs.YtcbeheaiblgpfaaGreatDoor.Ask
open Go.RowKit Go.Proofs.YtcbeheaiblgpfaaGreatDoorW.PrintWords Go.Proofs.YtcbeheaiblgpfaaGreatDoorW.PrintLast Go.Proofs.YtcbeheaiblgpfaaGreatDoorW.PrintMore
theorem vR {B b : Nat} {bs : List Value} {w w' : World} (h : Lib.IsBuilder 98 5 B b bs w) (hb : Below w.heap.size w w') : Lib.IsBuilder 98 5 B b bs w' := by
 have key : ∀ p, Lib.BuilderAt 98 5 B b p bs w → Lib.BuilderAt 98 5 B b p bs w' := by
  rintro p ⟨h1, v, h2, h3, h4⟩
  refine ⟨h1, v, (hb.block b (yx h2)).trans h2, haf h3 (fun k hk => ?_), h4⟩
  have := uai h3 k hk
  exact hb.block k this
 rcases h with h | h
 ·exact .inl (key _ h)
 ·exact .inr (key _ h)
theorem iJ (l : List UInt8) : Lib.strCells ((⟨#[32]⟩ : ByteArray) ++ ⟨l.toArray⟩) = Lib.byteCells (32 :: l) := by
 rw [Lib.strCells_eq]
 congr 1
set_option maxHeartbeats 2000000 in
set_option maxRecDepth 100000 in
theorem fP (A0 : Option Addr) (c0 : Nat) (l : List Int) (w : World) (G : Gl w) (hr : Kd.C (Kd.int .i64) w A0 l.length l) (hl : l.length ≤ 3000) (hn : ∀ n ∈ l, Num n) :
  Calls Tryz.prog 29 #[.slice A0 l.length c0] w fun e w' => e = .returned (.string ⟨(jo l).toArray⟩) ∧ Below w.heap.size w w' := by
 have HR := aa.mk hr
 have HN := aa.mk hn
 have HG := aa.mk G
 clear hr hn G
 go_enter Tryz.func29, Tryz.ntmps29
 go_wp2
 go_loopw [8] (fun v8 wr => ∃ k : Nat, k ≤ l.length ∧ v8 = .int .i64 k ∧ aa (Lib.IsBuilder 98 5 w.heap.size w.heap.size (Lib.byteCells (jo (l.take k))) wr) ∧ aa (Below w.heap.size w wr)) (fun v8 _ => l.length - (intOf v8).toNat)
 case atStart => exact ⟨0, Nat.zero_le _, rfl, ⟨Lib.fresh_isBuilder 98 5 w⟩, ⟨za (Below.refl _ _) _⟩⟩
 case round =>
  obtain ⟨k, hk, rfl, HI, HB⟩ := hrel
  by_cases hlt : k < l.length
  ·have hgs : decide ((k : Int) < (l.length : Int)) = true := decide_eq_true (by omega)
   obtain ⟨ad, e1, hx⟩ := Kd.kG HR.out (k : Int) (by omega) (by omega)
   cases e1
   replace hx := (HB.out.cell (World.block_lt_of_cell? w _ hx)).trans hx
   have hrd : rd l (k : Int) = l[k] := by unfold rd; simp [hlt]
   rw [hrd] at hx
   simp only [Int.toNat_natCast] at hx
   have hnum := HN.out l[k] (List.getElem_mem hlt)
   have hb1 : -9223372036854775808 ≤ l[k] := by have := hnum.1; omega
   have hb2 : l[k] ≤ 9223372036854775807 := by have := hnum.2; omega
   have HL := aa.mk (iH hnum)
   have HJ := aa.mk (aC (l.take k) (fun n hn => HN.out n (List.mem_of_mem_take hn)))
   have Hsz : (⟨#[32]⟩ : ByteArray).size + (⟨(Lib.itoa l[k]).toArray⟩ : ByteArray).size ≤ 9223372036854775807 := by
    have := HL.out
    show 1 + (Lib.itoa l[k]).toArray.size ≤ _
    simp; omega
   go_wp2_with (first
    | (go_at_call 71; refine (rX l[k] _ (HG.out.below HB.out) hb1 hb2).mono ?_; rintro e w2 ⟨rfl, hb⟩; have HI2 := aa.mk (vR HI.out hb); have HB2 := aa.mk (yf HB.out hb); clear hb)
    | (go_at_call 28; refine (writeString w.heap.size w.heap.size _ _ _ HI2.out ?hlen (qf HB2.out)).mono ?_; (case hlen => (rw [Lib.byteCells_length, ← Lib.strCells_length, iJ, Lib.byteCells_length, List.length_cons]; have := HL.out; have := HJ.out; rw [List.length_take] at this; omega)); rintro e w3 ⟨rfl, hbd, hb3⟩))
   go_roundw
   case rel =>
    refine ⟨k + 1, hlt, by go_num, ⟨?_⟩, ⟨HB2.out.trans hb3⟩⟩
    rw [iJ, ← Lib.byteCells_append] at hbd
    rw [List.take_succ_eq_append_getElem hlt, iP]
    refine Or.inr ?_
    simpa [jo] using hbd
   case measure => simp [intOf]; omega
  ·obtain rfl : k = l.length := by omega
   rw [List.take_length] at HI
   go_wp2_with (go_at_call 31; refine (Tryz.Builder_String_any w.heap.size w.heap.size (jo l) _ HI.out (qf HB.out)).mono ?_; rintro e w2 ⟨rfl, hb⟩)
   go_ret
   exact ⟨rfl, HB.out.trans hb⟩
end Go.Proofs.YtcbeheaiblgpfaaGreatDoor.Ask
end
noncomputable section
namespace Go.Proofs.YtcbeheaiblgpfaaGreatDoor.Ask
open Go.RowKit Go.Proofs.YtcbeheaiblgpfaaGreatDoorW.PrintWords Go.Proofs.YtcbeheaiblgpfaaGreatDoorW.PrintLast Go.Proofs.YtcbeheaiblgpfaaGreatDoorW.PrintMore
set_option maxHeartbeats 1000000 in
set_option maxRecDepth 100000 in
theorem yai (w : World) : Calls Tryz.prog 78 #[.bool true] w fun e w' => e = .returned (.tuple #[]) ∧ w = w' := by
 go_enter Tryz.func78, Tryz.ntmps78
 go_wp2
 go_end0
 exact ⟨rfl, rfl⟩
theorem vap (l m : List UInt8) : (Lib.trimPrefix l m).length ≤ l.length := by
 unfold Lib.trimPrefix
 split
 ·rw [List.length_drop]; omega
 ·exact Nat.le_refl _
theorem oak (n : Int) (w : World) (hn : Num n) :
  Calls Tryz.prog 77 #[.string ⟨(Lib.itoa n).toArray⟩] w fun e w' => e = .returned (.tuple #[.int .i64 n, .nilIface]) ∧ Below w.heap.size w w' :=
 (Tryz.strconv_Atoi ⟨(Lib.itoa n).toArray⟩ n (by have := iH hn; show (Lib.itoa n).toArray.size ≤ 18; simp; omega) (zaa hn) w).mono fun _ _ ⟨h1, t, h2⟩ => ⟨h1, by
  rw [h2]
  exact Lib.bytesWorld_below w 5 t⟩
set_option maxHeartbeats 2000000 in
set_option maxRecDepth 100000 in
theorem wZ (n : Int) (w : World) (G : Gl w) (hn : Num n) :
  Calls Tryz.prog 37 #[.string ⟨(Lib.itoa n).toArray⟩, .int .i64 13] w fun e w' => e = .returned (.int .i64 n) ∧ Below w.heap.size w w' := by
 have HG := aa.mk G
 have HN := aa.mk hn
 have hb1 : -9223372036854775808 ≤ n := by have := hn.1; omega
 have hb2 : n ≤ 9223372036854775807 := by have := hn.2; omega
 clear G hn
 obtain ⟨s, hs⟩ : ∃ s : ByteArray, s = ⟨(Lib.itoa n).toArray⟩ := ⟨_, rfl⟩
 rw [← hs]
 have HS := aa.mk hs
 have HT : aa (decide (((Lib.trimPrefix s.data.toList [45]).length : Int) ≤ 13) = true) := ⟨by
  have h1 := vap s.data.toList [45]
  have h2 := iH HN.out
  rw [hs] at h1 ⊢
  simp at h1 ⊢
  omega⟩
 clear hs
 go_enter Tryz.func37, Tryz.ntmps37
 go_wp2_with (first
  | (go_at_call 77; rw [HS.out]; refine (oak n _ HN.out).mono ?_; rintro e w2 ⟨rfl, hb⟩; have HB := aa.mk hb; clear hb; rw [← HS.out])
  | (go_at_call 71; refine (rX n _ (HG.out.below HB.out) hb1 hb2).mono ?_; rintro e w3 ⟨rfl, hb⟩; have HB2 := aa.mk (yf HB.out hb); clear hb; rw [← HS.out])
  | (go_at_call 30; refine (Tryz.strings_TrimPrefix _ _ _).mono ?_; rintro e w4 ⟨rfl, rfl⟩)
  | (go_at_call 78; rw [HT.out]; refine (yai _).mono ?_; rintro e w5 ⟨rfl, rfl⟩))
 go_ret
 exact ⟨rfl, HB2.out⟩
set_option maxHeartbeats 1000000 in
set_option maxRecDepth 100000 in
theorem gab (a0 a1 a2 : Int) (w : World) :
  Calls Tryz.prog 27 #[.int .i64 a0, .int .i64 a1, .int .i64 a2] w fun e w' => e = .returned (.bool (decide (a1 ≤ a0) && decide (a0 ≤ a2))) ∧ w = w' := by
 cases h1 : decide (a1 ≤ a0) with
 | true =>
  go_enter Tryz.func27, Tryz.ntmps27
  go_wp2
  go_ret
  exact ⟨by simp, rfl⟩
 | false =>
  go_enter Tryz.func27, Tryz.ntmps27
  go_wp2
  go_ret
  exact ⟨by simp, rfl⟩
def um (n : Int) : Bool := decide (-1 ≤ n) && decide (n ≤ 1000000000000)
set_option maxHeartbeats 1000000 in
set_option maxRecDepth 100000 in
theorem kT (n : Int) (w : World) :
  Calls Tryz.prog 26 #[.int .i64 n] w fun e w' => e = .returned (.bool (!um n)) ∧ w = w' := by
 go_enter Tryz.func26, Tryz.ntmps26
 go_wp2_with (go_at_call 27; refine (gab n (-1) 1000000000000 _).mono ?_; rintro e w4 ⟨rfl, rfl⟩)
 go_ret
 exact ⟨by simp [um], rfl⟩
def kC : List Int → Int → Int
 | [], _ => -1
 | n :: l, i => if um n then kC l (i + 1) else i
theorem kab (l : List Int) : ∀ (k : Nat) (h : k < l.length), kC (l.drop k) k = if um l[k] then kC (l.drop (k + 1)) ((k : Int) + 1) else (k : Int) := by
 intro k h
 rw [List.drop_eq_getElem_cons h, kC]
theorem lT : ∀ (l : List Int) (i : Int), 0 ≤ i → ((0 ≤ kC l i) ↔ l.all um = false)
 | [], i, h => by simp [kC]
 | n :: l, i, h => by
  rw [kC, List.all_cons]
  cases hf : um n with
  | true => simpa using lT l (i + 1) (by omega)
  | false => simpa using h
set_option maxHeartbeats 2000000 in
set_option maxRecDepth 100000 in
theorem rU (A0 : Option Addr) (c0 : Nat) (l : List Int) (w : World) (hr : Kd.C (Kd.int .i64) w A0 l.length l) :
  Calls Tryz.prog 69 #[.slice A0 l.length c0, .func (.func 26) #[] #[]] w fun e w' => e = .returned (.int .i64 (kC l 0)) ∧ w = w' := by
 have HR := aa.mk hr
 have hlen : l.length ≤ 9223372036854775807 := hr.2.1
 clear hr
 go_enter Tryz.func69, Tryz.ntmps69
 go_wp2
 go_loop [8] (fun v8 => ∃ k : Nat, k ≤ l.length ∧ v8 = .int .i64 k ∧ aa (kC l 0 = kC (l.drop k) k)) (fun v8 => l.length - (intOf v8).toNat)
 case atStart => exact ⟨0, Nat.zero_le _, rfl, ⟨rfl⟩⟩
 case round =>
  obtain ⟨k, hk, rfl, HA⟩ := hrel
  by_cases hlt : k < l.length
  ·have hgs : decide ((k : Int) < (l.length : Int)) = true := decide_eq_true (by omega)
   obtain ⟨ad, e1, hx⟩ := Kd.kG HR.out (k : Int) (by omega) (by omega)
   cases e1
   have hrd : rd l (k : Int) = l[k] := by unfold rd; simp [hlt]
   rw [hrd] at hx
   simp only [Int.toNat_natCast] at hx
   have HU := aa.mk (kab l k hlt)
   obtain ⟨n, hnk⟩ : ∃ n, n = l[k] := ⟨_, rfl⟩
   rw [← hnk] at hx HU
   clear hrd hnk
   cases hf : um n with
   | true =>
    have HF := aa.mk hf
    have HF2 : (!um n) = false := by rw [hf]; rfl
    clear hf
    go_wp2_with (go_at_call 26; refine (kT n _).mono ?_; rintro e w4 ⟨rfl, rfl⟩)
    go_round
    case rel => exact ⟨k + 1, hlt, by go_num, ⟨by rw [HA.out, HU.out, if_pos HF.out]; rfl⟩⟩
    case measure => simp [intOf]; omega
   | false =>
    have HF := aa.mk hf
    have HF2 : (!um n) = true := by rw [hf]; rfl
    clear hf
    go_wp2_with (go_at_call 26; refine (kT n _).mono ?_; rintro e w4 ⟨rfl, rfl⟩)
    go_ret
    exact ⟨by rw [HA.out, HU.out, if_neg (by rw [HF.out]; decide)]; rfl, rfl⟩
  ·obtain rfl : k = l.length := by omega
   go_wp2
   go_ret
   exact ⟨by rw [HA.out, List.drop_length]; rfl, rfl⟩
set_option maxHeartbeats 1000000 in
set_option maxRecDepth 100000 in
theorem kN (A0 : Option Addr) (c0 : Nat) (l : List Int) (w : World) (hr : Kd.C (Kd.int .i64) w A0 l.length l) :
  Calls Tryz.prog 25 #[.slice A0 l.length c0, .func (.func 26) #[] #[]] w fun e w' => e = .returned (.bool (!l.all um)) ∧ w = w' := by
 have HR := aa.mk hr
 clear hr
 have HU := aa.mk (lT l 0 (Int.le_refl _))
 go_enter Tryz.func25, Tryz.ntmps25
 go_wp2_with (go_at_call 69; refine (rU _ _ l _ HR.out).mono ?_; rintro e w4 ⟨rfl, rfl⟩)
 all_goals go_ret
 all_goals refine ⟨?_, rfl⟩
 all_goals (have := HU.out; cases h : l.all um <;> simp_all)
end Go.Proofs.YtcbeheaiblgpfaaGreatDoor.Ask
end
noncomputable section
namespace Go.Proofs.YtcbeheaiblgpfaaGreatDoor.Ask
open Go.RowKit Go.Proofs.YtcbeheaiblgpfaaGreatDoorW.PrintWords Go.Proofs.YtcbeheaiblgpfaaGreatDoorW.PrintLast Go.Proofs.YtcbeheaiblgpfaaGreatDoorW.PrintMore
theorem oac : (Tryz.prog.info? 23).map (fun i => (i.zero, i.size, i.bytes)) = some (some (.slice none 0 0), 1, 24) := by kernel_rfl
theorem rai {w : World} {cur : Array Value} {G : Nat} (hc : cur.size = G) (hG : G ≤ maxLen) : (w.drew.alloc (.cells cur 23)).ownsRow w.heap.size 23 1 (.slice (some ⟨w.heap.size, 0, none⟩) 0 G) 0 [] :=
 ⟨by simp, .inr ⟨w.heap.size, G, cur, rfl, Nat.le_refl _, heap_alloc_new w.drew _, Nat.zero_le _, hG, by omega, by simp⟩⟩
set_option maxHeartbeats 4000000 in
set_option maxRecDepth 100000 in
theorem paj (n : Nat) (w : World) (h1 : 1 ≤ n) (h2 : n ≤ 1000000) :
  Calls Tryz.prog 68 #[.slice none 0 0, .int .i64 n] w fun e w' => ∃ g G, e = .returned (.slice (some ⟨g, 0, none⟩) 0 G) ∧ n ≤ G ∧ G ≤ maxLen ∧ w'.ownsRow w.heap.size 23 1 (.slice (some ⟨g, 0, none⟩) 0 G) 0 [] ∧ Below w.heap.size w w' := by
 obtain ⟨i0, hi0, hz0, hs0, hb0⟩ := info_parts oac
 have hrz : ∀ ty, (Builtin.append_ #[24, 3] ty #[.slice none 0 0, .int .i64 (n : Int)]).run Tryz.prog w =
   .ok (.slice (some ⟨w.heap.size, 0, none⟩) n (grownCap w n 0 23)) (w.drew.alloc (.cells (([] : List Value).toArray ++ Builtin.zeroCells (Value.slice none 0 0).cells n ++ Builtin.zeroCells (Value.slice none 0 0).cells (grownCap w n 0 23 - n)) 23)) := fun ty => by
  have h := Lib.run_append_grow_zeros w 24 3 ty 23 i0 (.slice none 0 0) .i64 .i64 Tryz.underlying24 Tryz.underlying3 hi0 hz0 none 0 0 [] (run_firstCells_none w.drew i0.size 0 0 0) n (by omega) (by omega) (by omega) (by omega)
   (by rw [hb0]; omega)
   (by rw [Nat.zero_add]; exact growslice_fits (by omega) (by rw [hb0]; omega))
  rw [Nat.zero_add] at h
  exact h
 have hGn : n ≤ grownCap w n 0 23 := grownCap_ge w _ _ _
 have hG63 := grownCap_le_maxLen w n 0 23 (by unfold maxLen; omega)
 obtain ⟨G, hG⟩ : ∃ G, G = grownCap w n 0 23 := ⟨_, rfl⟩
 rw [← hG] at hrz hGn hG63
 have HM := aa.mk hG63
 have HG := aa.mk hGn
 have hG64 : G ≤ 9223372036854775807 := by have := hG63; unfold maxLen at this; omega
 have hn1 : ¬ ((n : Int) < 0) := by omega
 have hn2 : (n : Int) > 0 := by omega
 have hn3 : (n : Int) ≤ 1000000 := by omega
 clear hG63
 clear hG
 go_enter Tryz.func68, Tryz.ntmps68
 go_wp2_with (at_builtin; refine Lib.wpList_append_run _ rfl _ _ _ _ rfl _ _ rfl rfl _ _ (hrz _) ?_)
 go_ret
 refine ⟨_, _, rfl, HG.out, HM.out, rai ?_ HM.out, (Below.drew (Below.refl _ _)).alloc (Nat.le_refl _) _⟩
 have := HG.out
 have h1 : (Value.slice none 0 0).cells = #[.slice none 0 0] := rfl
 simp only [Builtin.zeroCells, h1, Array.size_append, Array.size_map, Array.size_range, List.size_toArray, List.length_nil, List.length_cons]
 omega
section
variable {P : Program}
theorem oU {w : World} (base : Nat) (t ty e : TypeId) (i : TypeInfo) (size : Nat) (ht : P.underlying t = some (.slice e)) (hi : P.info? e = some i)
  (v : Value) (n c : Nat) (xs : List Value) (hown : w.ownsRow base e size v n xs) :
  (Builtin.append_ #[t, t] ty #[v, .slice none 0 c]).run P w = .ok v w := by
 rcases hown.2 with ⟨rfl, rfl⟩ | ⟨g, cap, cur, rfl, _, _, hnc, _⟩
 ·simp [Builtin.append_, run_underlying ht, sizeOf, typeInfo, hi, Builtin.lenOf, Builtin.firstCells]
 ·simp [Builtin.append_, run_underlying ht, sizeOf, typeInfo, hi, Builtin.lenOf, Builtin.firstCells, hnc, storeCells]
theorem yI (w : World) {ops : Array Oper} {rest : List Oper} {o : Oper} {a : Act} {Q : Exit → Act → World → Prop}
  (hg : o.guard = none) (s x : Operand) (t : TypeId) (hop : o.op = Op.call { callee := Callee.builtin Builtin.append, args := #[s, x], argTypes := #[t, t] })
  (base : Nat) (e : TypeId) (i : TypeInfo) (size : Nat) (h1 : P.underlying t = some (.slice e)) (h2 : P.info? e = some i) (h4 : i.size = size)
  (g k cap : Nat) (xs : List Value) (hs : a.eval s = .slice (some ⟨g, 0, none⟩) k cap) (hown : w.ownsRow base e size (.slice (some ⟨g, 0, none⟩) k cap) k xs) (ao : Option Addr) (m c : Nat) (news : List Value) (hx : a.eval x = .slice ao m c) (hn : news.length = m * size)
  (hnone : ao = none → m = 0) (hc : ∀ ad, ao = some ad → ∀ j u, news[j]? = some u → w.cell? (ad.add j) = some u) (h1c : ∀ u ∈ news, u.oneCell' = true) (b1 : k + m ≤ cap)
  (hK : ∀ w', w'.ownsRow base e size (.slice (some ⟨g, 0, none⟩) (k + m) cap) (k + m) (xs ++ news) → w.grownBy w' (some g) → wpList P ops Q rest (a.put o.dst (.slice (some ⟨g, 0, none⟩) (k + m) cap)) w') :
  wpList P ops Q (o :: rest) a w := by
 cases ao with
 | some ad => exact wpList_append_fits w hg s x t hop base e i size h1 h2 h4 g k cap xs hs hown ad m c news hx hn (hc ad rfl) h1c b1 hK
 | none =>
  obtain rfl := hnone rfl
  have hnews : news = [] := List.eq_nil_of_length_eq_zero (by simpa using hn)
  subst hnews
  refine wpList_plain hg fun K hK' => ?_
  have hrun := oU (P := P) (w := w) base t o.type e i size h1 h2 _ k c xs hown
  unfold Oper.wp
  simp [execOp, hop, resolve, invoke, builtin, hs, hx, hrun, Result.andThen]
  exact hK' _ _ (by simpa using hK w (by simpa using hown) (World.grownBy.refl _ _))
end
structure Raw (w : World) (A : Option Addr) (n : Nat) (vs : List Value) : Prop where
 len : vs.length = n
 none : A = none → n = 0
 cell : ∀ ad, A = some ad → ∀ j u, vs[j]? = some u → w.cell? (ad.add j) = some u
 one : ∀ u ∈ vs, u.oneCell' = true
theorem Raw.below {w w' : World} {A : Option Addr} {n : Nat} {vs : List Value} (h : Raw w A n vs) (hb : Below w.heap.size w w') : Raw w' A n vs :=
 ⟨h.len, h.none, fun ad e j u hj => (hb.cell (World.block_lt_of_cell? w _ (h.cell ad e j u hj))).trans (h.cell ad e j u hj), h.one⟩
set_option maxHeartbeats 4000000 in
set_option maxRecDepth 100000 in
theorem cad (bb : Nat) (A0 : Option Addr) (n0 c0 : Nat) (A1 : Option Addr) (n1 c1 : Nat) (vs0 vs1 : List Value) (w : World) (h0 : w.cell? ⟨bb, 0, none⟩ = some (.slice A0 n0 c0)) (h1 : w.cell? ⟨bb, 1, none⟩ = some (.slice A1 n1 c1))
  (r0 : Raw w A0 n0 vs0) (r1 : Raw w A1 n1 vs1) (hn : 1 ≤ n0 + n1) (hm : n0 + n1 ≤ 1000000) :
  Calls Tryz.prog 24 #[.slice (some ⟨bb, 0, none⟩) 2 2] w fun e w' => ∃ g cap, e = .returned (.slice (some ⟨g, 0, none⟩) (n0 + n1) cap) ∧ n0 + n1 ≤ cap ∧ cap ≤ maxLen ∧ w'.ownsRow w.heap.size 23 1 (.slice (some ⟨g, 0, none⟩) (n0 + n1) cap) (n0 + n1) (vs0 ++ vs1) ∧ Below w.heap.size w w' := by
 obtain ⟨i0, hi0, hz0, hs0, hb0⟩ := info_parts oac
 have R0 := aa.mk r0
 have R1 := aa.mk r1
 have HN := aa.mk hn
 clear r0 r1 hn
 go_enter Tryz.func24, Tryz.ntmps24
 go_wp2
 go_loop [3, 11] (fun v3 v11 => ∃ k : Nat, k ≤ 2 ∧ v11 = .int .i64 k ∧ v3 = .int .i64 (if k = 0 then 0 else if k = 1 then (n0 : Int) else (n0 : Int) + n1)) (fun _ v11 => 2 - (RowKit.intOf v11).toNat)
 case atStart => exact ⟨0, by omega, rfl, rfl⟩
 case round =>
  obtain ⟨k, hk, rfl, rfl⟩ := hrel
  have hk3 : k = 0 ∨ k = 1 ∨ k = 2 := by omega
  rcases hk3 with rfl | rfl | rfl
  ·have hw : ¬ ((n0 : Int) < 0) := by omega
   have hw2 : (n0 : Int) ≤ 1000000 := by omega
   simp only [if_pos]
   go_wp2
   go_round
   case rel => exact ⟨1, by omega, by go_num, by go_num⟩
   case measure => simp [RowKit.intOf]
  ·have hw : ¬ ((n0 : Int) + n1 < 0) := by omega
   have hw2 : (n0 : Int) + n1 ≤ 1000000 := by omega
   simp only [if_pos, if_neg (show ¬ (1 = 0) by decide)]
   go_wp2
   go_round
   case rel => exact ⟨2, by omega, by go_num, by go_num⟩
   case measure => simp [RowKit.intOf]
  ·simp only [if_pos, if_neg (show ¬ (2 = 0) by decide), if_neg (show ¬ (2 = 1) by decide)]
   go_wp2_with (go_at_call 68; rw [show (n0 : Int) + n1 = ((n0 + n1 : Nat) : Int) by omega]; refine (paj (n0 + n1) _ HN.out hm).mono ?_; rintro e w2 ⟨g, G, rfl, hG1, hG2, hown, hb⟩; have HG1 := aa.mk hG1; have HG2 := aa.mk hG2; have HO := aa.mk hown; have HB := aa.mk hb; clear hG1 hG2 hown hb)
   go_loopw [6, 27] (fun v6 v27 wr => ∃ k : Nat, k ≤ 2 ∧ v27 = .int .i64 k ∧ v6 = .slice (some ⟨g, 0, none⟩) (if k = 0 then 0 else if k = 1 then n0 else n0 + n1) G ∧
    aa (wr.ownsRow w.heap.size 23 1 (.slice (some ⟨g, 0, none⟩) (if k = 0 then 0 else if k = 1 then n0 else n0 + n1) G) (if k = 0 then 0 else if k = 1 then n0 else n0 + n1) (if k = 0 then [] else if k = 1 then vs0 else vs0 ++ vs1)) ∧ aa (Below w.heap.size w wr)) (fun _ v27 _ => 2 - (RowKit.intOf v27).toNat)
   case atStart => exact ⟨0, by omega, rfl, rfl, HO, HB⟩
   case round =>
    obtain ⟨k, hk, rfl, rfl, HO, HB⟩ := hrel
    have hk3 : k = 0 ∨ k = 1 ∨ k = 2 := by omega
    rcases hk3 with rfl | rfl | rfl
    ·simp only [if_pos] at HO ⊢
     have HC := aa.mk ((R0.out.below HB.out).cell)
     have hw := (HB.out.cell (World.block_lt_of_cell? w _ h0)).trans h0
     go_wp2_with (at_builtin; refine yI _ rfl _ _ 24 rfl w.heap.size 23 i0 1 Tryz.underlying24 hi0 hs0 g 0 G [] rfl HO.out A0 n0 c0 vs0 rfl (by rw [R0.out.len]; omega) R0.out.none (R0.out.below HB.out).cell R0.out.one (by have := HG1.out; omega) ?_)
     intro w3 hown hg
     have HO2 := aa.mk hown
     have HB2 := aa.mk (HB.out.grown hg (qf HB.out) (fun k hk => (HO.out.lt k hk).1))
     clear hown hg
     go_wp2
     go_roundw
     case rel => exact ⟨1, by omega, by go_num, by simp, by simpa using HO2, HB2⟩
     case measure => simp [RowKit.intOf]
    ·simp only [if_pos, if_neg (show ¬ (1 = 0) by decide)] at HO ⊢
     have hw := (HB.out.cell (World.block_lt_of_cell? w _ h1)).trans h1
     go_wp2_with (at_builtin; refine yI _ rfl _ _ 24 rfl w.heap.size 23 i0 1 Tryz.underlying24 hi0 hs0 g n0 G vs0 rfl HO.out A1 n1 c1 vs1 rfl (by rw [R1.out.len]; omega) R1.out.none (R1.out.below HB.out).cell R1.out.one (by have := HG1.out; omega) ?_)
     intro w3 hown hg
     have HO2 := aa.mk hown
     have HB2 := aa.mk (HB.out.grown hg (qf HB.out) (fun k hk => (HO.out.lt k hk).1))
     clear hown hg
     go_wp2
     go_roundw
     case rel => exact ⟨2, by omega, by go_num, by simp, by simpa using HO2, HB2⟩
     case measure => simp [RowKit.intOf]
    ·simp only [if_pos, if_neg (show ¬ (2 = 0) by decide), if_neg (show ¬ (2 = 1) by decide)] at HO ⊢
     go_wp2
     go_ret
     exact ⟨_, _, rfl, HG1.out, HG2.out, HO.out, HB.out⟩
end Go.Proofs.YtcbeheaiblgpfaaGreatDoor.Ask
end
