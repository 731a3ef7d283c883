/- The law InquiryLong: part Ah. -/
import Derived.Test.YtcbeheaiblgpfaaGreatDoorQAe
import Derived.Test.YtcbeheaiblgpfaaGreatDoorQAf
import Derived.Test.YtcbeheaiblgpfaaGreatDoorQAg
set_option linter.unusedVariables false
set_option linter.unusedSimpArgs false
noncomputable section
namespace Go.Proofs.YtcbeheaiblgpfaaGreatDoor.Ask
open Go.RowKit Go.Proofs.YtcbeheaiblgpfaaGreatDoorW.PrintWords Go.Proofs.YtcbeheaiblgpfaaGreatDoorW.PrintLast Go.Proofs.YtcbeheaiblgpfaaGreatDoorW.PrintMore
open Go.Lib (decDigits itoa)
def Ends {α : Type} (g : Nat → Option α) (r : α) : Prop := ∃ K, ∀ k, K ≤ k → g k = some r
theorem Ends.const {α : Type} {g : Nat → Option α} {r : α} (h : ∀ k, g k = some r) : Ends g r := ⟨0, fun k _ => h k⟩
theorem Ends.step {α : Type} {f g : Nat → Option α} {r : α} (h : Ends g r) (hf : ∀ k, f (k + 1) = g k) : Ends f r := by
  obtain ⟨K, h⟩ := h
  exact ⟨K + 1, fun k hk => by obtain ⟨m, rfl⟩ : ∃ m, k = m + 1 := ⟨k - 1, by omega⟩; rw [hf]; exact h m (by omega)⟩
theorem Ends.congr {α : Type} {f g : Nat → Option α} {r : α} (h : Ends g r) (hf : ∀ k, f k = g k) : Ends f r := by
  obtain ⟨K, h⟩ := h
  exact ⟨K, fun k hk => by rw [hf]; exact h k hk⟩
theorem Ends.bind {α β : Type} {g : Nat → Option α} {f : Nat → α → Option β} {a : α} {r : β} (h : Ends g a) (h2 : Ends (fun k => f k a) r) : Ends (fun k => (g k).bind (f k)) r := by
  obtain ⟨K, h⟩ := h
  obtain ⟨L, h2⟩ := h2
  exact ⟨max K L, fun k hk => by show (g k).bind (f k) = _; rw [h k (by omega), Option.bind_some]; exact h2 k (by omega)⟩
theorem Ends.at {α : Type} {g : Nat → Option α} {r : α} (h : Ends g r) : ∃ k, g k = some r := by
  obtain ⟨K, h⟩ := h
  exact ⟨K, h K (Nat.le_refl _)⟩
def S (l : List UInt8) : ByteArray := ⟨l.toArray⟩
theorem tah {a b : ByteArray} (h : a.data.toList = b.data.toList) : a = b := by
  cases a; cases b; congr; exact Array.toList_inj.1 h
theorem oI (l : List UInt8) : (S l).data.toList = l := rfl
theorem rH (l : List UInt8) : (S l).toList = l := Lib.toList_data _
theorem eD (l : List UInt8) : (S l).size = l.length := by show l.toArray.size = _; simp
theorem wC (a b : List UInt8) : S a ++ S b = S (a ++ b) := by
  apply tah
  rw [oI]
  simp [S]
theorem w64 {x : Int} (h0 : -9223372036854775808 ≤ x) (h1 : x ≤ 9223372036854775807) : wrap64 x = x := by unfold wrap64; omega
theorem aah (u : Nat) (hu : u ≤ 1000000000000) : Ends (fun k => uf.f k (u : Int)) (S (decDigits u)) := by
  induction u using Nat.strongRecOn with
  | _ u ih =>
    by_cases h : u < 10
    · refine Ends.step (g := fun _ => some (S (decDigits u))) (.const fun _ => rfl) fun k => ?_
      show uf.f (k + 1) (u : Int) = _
      simp only [uf.f]
      rw [if_neg (by omega), if_pos (by omega), Lib.decDigits_one h, w64 (by omega) (by omega)]
      congr 1
      apply tah
      rw [oI, strOfNums_data, List.map_singleton, show ((48 + (u : Int)) % 256).toNat = 48 + u from by omega]
    · refine Ends.step (g := fun k => (uf.f k (wrap64 (Int.tdiv (u : Int) 10))).bind fun t108 => ((uf.f k (Int.tmod (u : Int) 10)).bind fun t109 => (if t108.size + t109.size ≤ 9223372036854775807 then (some (t108 ++ t109)) else (none)))) ?_ fun k => ?_
      · have e1 : wrap64 (Int.tdiv (u : Int) 10) = ((u / 10 : Nat) : Int) := by
          rw [w64] <;> rw [show Int.tdiv (u : Int) 10 = ((u / 10 : Nat) : Int) from rfl] <;> omega
        have e2 : Int.tmod (u : Int) 10 = ((u % 10 : Nat) : Int) := rfl
        rw [e1, e2]
        refine Ends.bind (ih (u / 10) (by omega) (by omega)) (Ends.bind (ih (u % 10) (by omega) (by omega)) (.const fun k => ?_))
        have h1 := nV (u := u / 10) (by omega)
        have h2 := nV (u := u % 10) (by omega)
        rw [if_pos (by rw [eD, eD]; omega), wC]
        congr 2
        rw [decDigits.eq_1 u, dif_neg h, Lib.decDigits_one (by omega : u % 10 < 10)]
      · show uf.f (k + 1) (u : Int) = _
        simp only [uf.f]
        rw [if_neg (by omega), if_neg (by omega)]
theorem xan {n : Int} (hn : Num n) : Ends (fun k => uf.f k n) (S (itoa n)) := by
  unfold itoa
  by_cases h : n < 0
  · have e : n = -1 := by obtain ⟨h1, h2⟩ := hn; omega
    subst e
    rw [if_pos h]
    refine Ends.step (g := fun k => (uf.f k 1).bind fun t104 => (if 1 + t104.size ≤ 9223372036854775807 then (some ((⟨#[45]⟩ : ByteArray) ++ t104)) else (none))) ?_ fun k => ?_
    · refine Ends.bind (aah 1 (by omega)) (.const fun k => ?_)
      have h1 := nV (u := 1) (by omega)
      rw [if_pos (by rw [eD]; omega)]
      exact congrArg some (wC [45] (decDigits 1))
    · show uf.f (k + 1) (-1) = _
      simp only [uf.f]
      rw [if_pos (by omega)]
  · rw [if_neg h]
    have := aah n.toNat (by obtain ⟨h1, h2⟩ := hn; omega)
    rwa [Int.toNat_of_nonneg (by omega)] at this
theorem vab {l : List Int} {i : Nat} (h : i < l.length) : rd l (i : Int) = l[i] := by unfold rd; simp [h]
theorem dV {l : List (List Int)} {i : Nat} (h : i < l.length) : ak l (i : Int) = l[i] := by unfold ak; simp [h]
theorem tae (l : List Int) (hn : ∀ n ∈ l, Num n) (hl : l.length ≤ 100000) : ∀ (d i : Nat) (a : List UInt8), l.length - i = d → i ≤ l.length → a.length + 14 * d ≤ 1000000000 → Ends (fun k => zf.l0 k (S a) l (i : Int)) (S (a ++ jo (l.drop i)))
  | 0, i, a, hd, hi, ha => by
    obtain rfl : i = l.length := by omega
    refine Ends.step (g := fun _ => some (S (a ++ jo (l.drop l.length)))) (.const fun _ => rfl) fun k => ?_
    show zf.l0 (k + 1) (S a) l (l.length : Int) = _
    simp only [zf.l0]
    rw [if_neg (by omega), List.drop_length]
    simp [jo]
  | d + 1, i, a, hd, hi, ha => by
    have hlt : i < l.length := by omega
    have hnum := hn l[i] (List.getElem_mem hlt)
    have hlen := iH hnum
    have ih := tae l hn hl d (i + 1) (a ++ (32 :: itoa l[i])) (by omega) (by omega) (by simp; omega)
    rw [List.append_assoc, show (32 :: itoa l[i]) ++ jo (l.drop (i + 1)) = jo (l.drop i) from by rw [List.drop_eq_getElem_cons hlt, jo]] at ih
    refine Ends.step (g := fun k => (uf.f k (rd l (i : Int))).bind fun t111 => (if ((S a) ++ (⟨#[32]⟩ : ByteArray)).size + t111.size ≤ 9223372036854775807 then (zf.l0 k (((S a) ++ (⟨#[32]⟩ : ByteArray)) ++ t111) l (wrap64 ((i : Int) + 1))) else (none))) ?_ fun k => ?_
    · rw [vab hlt]
      refine Ends.bind (xan hnum) (ih.congr fun k => ?_)
      have e1 : (⟨#[32]⟩ : ByteArray) = S [32] := rfl
      rw [e1, wC, wC, if_pos (by rw [eD, eD, List.length_append, List.length_singleton]; omega), w64 (by omega) (by omega)]
      simp
    · show zf.l0 (k + 1) (S a) l (i : Int) = _
      simp only [zf.l0]
      rw [if_pos (by omega), if_pos (by rw [eD]; omega), if_pos (by omega)]
theorem uae (l : List Int) (hn : ∀ n ∈ l, Num n) (hl : l.length ≤ 100000) (a : List UInt8) (ha : a.length + 14 * l.length ≤ 1000000000) : Ends (fun k => zf.f k (S a) l) (S (a ++ jo l)) := by
  have := tae l hn hl l.length 0 a (by omega) (by omega) ha
  rwa [List.drop_zero] at this
theorem gT (n : Int) : ym.f n (-1) 1000000000000 = some (um n) := by
  unfold ym.f um
  by_cases h : n ≥ -1
  · rw [if_pos h, decide_eq_true (show -1 ≤ n from h), Bool.true_and]
  · rw [if_neg h, decide_eq_false (show ¬ -1 ≤ n from h), Bool.false_and]
theorem yL (l : List Int) (hl : l.length ≤ 100000) : ∀ (d i : Nat), l.length - i = d → i ≤ l.length → Ends (fun k => bf.l0 k l (i : Int)) ((l.drop i).all um)
  | 0, i, hd, hi => by
    obtain rfl : i = l.length := by omega
    refine Ends.step (g := fun _ => some ((l.drop l.length).all um)) (.const fun _ => rfl) fun k => ?_
    show bf.l0 (k + 1) l (l.length : Int) = _
    simp only [bf.l0]
    rw [if_neg (by omega), List.drop_length]
    rfl
  | d + 1, i, hd, hi => by
    have hlt : i < l.length := by omega
    have ih := yL l hl d (i + 1) (by omega) (by omega)
    cases hf : um l[i] with
    | true =>
      have e : (l.drop i).all um = (l.drop (i + 1)).all um := by rw [List.drop_eq_getElem_cons hlt, List.all_cons, hf, Bool.true_and]
      rw [e]
      refine Ends.step ih fun k => ?_
      show bf.l0 (k + 1) l (i : Int) = _
      simp only [bf.l0]
      rw [if_pos (by omega), if_pos (by omega), vab hlt, gT, hf, Option.bind_some, if_pos rfl, w64 (by omega) (by omega)]
      rfl
    | false =>
      refine Ends.step (g := fun _ => some ((l.drop i).all um)) (.const fun _ => rfl) fun k => ?_
      show bf.l0 (k + 1) l (i : Int) = _
      simp only [bf.l0]
      rw [if_pos (by omega), if_pos (by omega), vab hlt, gT, hf, Option.bind_some, if_neg (by decide), List.drop_eq_getElem_cons hlt, List.all_cons, hf]
      rfl
theorem zL (l : List Int) (hl : l.length ≤ 100000) : Ends (fun k => bf.f k l) (l.all um) := by
  have := yL l hl l.length 0 (by omega) (by omega)
  rwa [List.drop_zero] at this
def lastB (ok : Bool) (x : List UInt8) : ByteArray × Int := if ok then (if x = [] then (⟨#[]⟩, 0) else (S (x.drop 1), 0)) else (⟨#[]⟩, 1)
theorem kK (l0 : List Int) (l1 : List (List Int)) (h1 : l1.length ≤ 1000) (h2 : ∀ l ∈ l1, l.length ≤ 3000) : ∀ (d i : Nat) (ok : Bool) (x : List UInt8), l1.length - i = d → i ≤ l1.length → x.length + 42002 * d ≤ 100000000 →
    Ends (fun k => qa.l2 k ok (S x) (i : Int) l0 l1) (lastB (ok && (l1.drop i).all fun l => l.all um) (if ok && (l1.drop i).all fun l => l.all um then x ++ vB (l1.drop i) else []))
  | 0, i, ok, x, hd, hi, hx => by
    obtain rfl : i = l1.length := by omega
    refine Ends.step (g := fun _ => some (lastB ok (if ok then x else []))) ?_ fun k => ?_
    · rw [List.drop_length]
      simp only [List.all_nil, Bool.and_true, vB, List.append_nil]
      exact .const fun _ => rfl
    · show qa.l2 (k + 1) ok (S x) (l1.length : Int) l0 l1 = _
      simp only [qa.l2]
      rw [if_neg (by omega)]
      cases ok with
      | false => rfl
      | true =>
        rw [if_pos rfl, rH]
        unfold lastB
        by_cases h : x = []
        · rw [if_pos h, if_pos rfl, if_pos rfl, if_pos h]
        · rw [if_neg h, if_pos rfl, if_pos rfl, if_neg h, if_pos (by rw [eD]; have : x.length ≠ 0 := fun e => h (List.length_eq_zero_iff.1 e); omega)]
          congr 2
          apply tah
          rw [Lib.extract_data, oI, oI, eD]
          exact List.take_of_length_le (by rw [List.length_drop]; omega)
  | d + 1, i, ok, x, hd, hi, hx => by
    have hlt : i < l1.length := by omega
    have hlen := h2 l1[i] (List.getElem_mem hlt)
    have hdr : l1.drop i = l1[i] :: l1.drop (i + 1) := List.drop_eq_getElem_cons hlt
    cases ok with
    | false =>
      have ih := kK l0 l1 h1 h2 d (i + 1) false x (by omega) (by omega) (by omega)
      simp only [Bool.false_and] at ih ⊢
      refine Ends.step ih fun k => ?_
      show qa.l2 (k + 1) false (S x) (i : Int) l0 l1 = _
      simp only [qa.l2]
      rw [if_pos (by omega), if_neg (by decide), w64 (by omega) (by omega)]
      rfl
    | true =>
      refine Ends.step (g := fun k => (bf.f k (ak l1 (i : Int))).bind fun t133 => (if t133 = true then (if (S x).size + 2 ≤ 9223372036854775807 then ((zf.f k ((S x) ++ (⟨#[32, 124]⟩ : ByteArray)) (ak l1 (i : Int))).bind fun t135 => (qa.l2 k t133 t135 (wrap64 ((i : Int) + 1)) l0 l1)) else (none)) else (qa.l2 k t133 (S x) (wrap64 ((i : Int) + 1)) l0 l1))) ?_ fun k => ?_
      · rw [dV hlt, w64 (by omega) (by omega)]
        refine Ends.bind (zL l1[i] (by omega)) ?_
        cases hf : l1[i].all um with
        | true =>
          have hnum : ∀ n ∈ l1[i], Num n := fun n hn => iA (List.all_eq_true.1 hf n hn)
          have hjl := aC l1[i] hnum
          have ih := kK l0 l1 h1 h2 d (i + 1) true (x ++ [32, 124] ++ jo l1[i]) (by omega) (by omega) (by simp; omega)
          have e : (true && (l1.drop i).all fun l => l.all um) = (true && (l1.drop (i + 1)).all fun l => l.all um) := by rw [hdr, List.all_cons, hf, Bool.true_and, Bool.true_and]
          rw [e, hdr, vB, ← List.append_assoc, ← List.append_assoc]
          refine Ends.congr (g := fun k => (zf.f k (S (x ++ [32, 124])) l1[i]).bind fun t135 => (qa.l2 k true t135 (((i + 1 : Nat)) : Int) l0 l1)) (Ends.bind (uae l1[i] hnum (by omega) (x ++ [32, 124]) (by simp; omega)) ih) fun k => ?_
          rw [if_pos rfl, if_pos (by rw [eD]; omega), show (⟨#[32, 124]⟩ : ByteArray) = S [32, 124] from rfl, wC]
          rfl
        | false =>
          have ih := kK l0 l1 h1 h2 d (i + 1) false x (by omega) (by omega) (by omega)
          have e : (true && (l1.drop i).all fun l => l.all um) = (false && (l1.drop (i + 1)).all fun l => l.all um) := by rw [hdr, List.all_cons, hf]; simp
          rw [e]
          simp only [Bool.false_and] at ih ⊢
          refine ih.congr fun k => ?_
          rw [if_neg (by decide)]
          rfl
      · show qa.l2 (k + 1) true (S x) (i : Int) l0 l1 = _
        simp only [qa.l2]
        rw [if_pos (by omega), if_pos trivial, if_pos (by omega)]
theorem mal (l0 : List Int) (l1 : List (List Int)) (h1 : l1.length ≤ 1000) (h2 : ∀ l ∈ l1, l.length ≤ 3000) (ok : Bool) (x : List UInt8) (hx : x.length ≤ 1000000) :
    Ends (fun k => qa.j3 k ok (S x) l0 l1) (lastB (ok && l1.all fun l => l.all um) (if ok && l1.all fun l => l.all um then x ++ vB l1 else [])) := by
  have := kK l0 l1 h1 h2 l1.length 0 ok x (by omega) (by omega) (by omega)
  rw [List.drop_zero] at this
  exact Ends.step this fun k => rfl
theorem iT (l0 : List Int) (l1 : List (List Int)) (h0 : l0.length ≤ 3000) (hn : ∀ n ∈ l0, Num n) (h1 : l1.length ≤ 1000) (h2 : ∀ l ∈ l1, l.length ≤ 3000) (r : ByteArray × Int) : ∀ (d i : Nat) (x : List UInt8), l0.length - i = d → i ≤ l0.length → x.length + 14 * d ≤ 1000000 →
    Ends (fun k => qa.j3 k true (S (x ++ jo (l0.drop i))) l0 l1) r → Ends (fun k => qa.l1 k true (S x) (i : Int) l0 l1) r
  | 0, i, x, hd, hi, hx, hr => by
    obtain rfl : i = l0.length := by omega
    rw [List.drop_length] at hr
    simp only [jo, List.append_nil] at hr
    refine Ends.step hr fun k => ?_
    show qa.l1 (k + 1) true (S x) (l0.length : Int) l0 l1 = _
    simp only [qa.l1]
    rw [if_neg (by omega)]
  | d + 1, i, x, hd, hi, hx, hr => by
    have hlt : i < l0.length := by omega
    have hnum := hn l0[i] (List.getElem_mem hlt)
    have hlen := iH hnum
    have ih := iT l0 l1 h0 hn h1 h2 r d (i + 1) (x ++ jo [l0[i]]) (by omega) (by omega) (by simp [jo]; omega) (by
      rw [List.append_assoc, ← iP]
      rwa [List.drop_eq_getElem_cons hlt] at hr)
    refine Ends.step (g := fun k => (zf.f k (S x) [l0[i]]).bind fun t131 => (qa.l1 k true t131 (wrap64 ((i : Int) + 1)) l0 l1)) ?_ fun k => ?_
    · rw [w64 (by omega) (by omega)]
      exact Ends.bind (uae [l0[i]] (fun n hn' => by rw [List.mem_singleton.1 hn']; exact hnum) (by simp) x (by simp; omega)) ih
    · show qa.l1 (k + 1) true (S x) (i : Int) l0 l1 = _
      simp only [qa.l1]
      rw [if_pos (by omega), if_pos (by trivial), if_pos (by omega), vab hlt]
theorem o8 (x : List UInt8) (hx : x = [] ∨ ∃ r, x = 32 :: r) : Lib.trimPrefix x [32] = x.drop 1 := by
  rcases hx with rfl | ⟨r, rfl⟩
  · decide
  · unfold Lib.trimPrefix
    rw [if_pos (by unfold Lib.hasPrefix; simp [List.isPrefixOf])]
    rfl
theorem waa (l0 : List Int) (l1 : List (List Int)) : fM l0 l1 = [] ∨ ∃ r, fM l0 l1 = 32 :: r := by
  unfold fM
  cases l0 with
  | cons n l => exact .inr ⟨_, rfl⟩
  | nil => cases l1 with
    | nil => exact .inl rfl
    | cons m r => exact .inr ⟨_, rfl⟩
theorem gaj (l0 : List Int) (l1 : List (List Int)) (ho : qJ l0 l1 = false) (hf : uF l0 l1 = true) : lastB true (fM l0 l1) = ji l0 l1 := by
  unfold lastB ji
  simp only [ho, hf, if_true, Bool.false_eq_true, if_false]
  rw [o8 _ (waa l0 l1)]
  by_cases h : fM l0 l1 = []
  · rw [if_pos h, h]; rfl
  · rw [if_neg h]; rfl
theorem iX (l0 : List Int) (l1 : List (List Int)) (h0 : l0.length ≤ 2000) (h1 : l1.length ≤ 400) (h2 : ∀ l ∈ l1, l.length ≤ 3000) : ∀ (d i : Nat), l1.length - i = d → i ≤ l1.length → ((l1.take i).any fun l => decide (2000 < l.length)) = false →
    Ends (fun k => qa.l0 k (i : Int) l0 l1) (ji l0 l1)
  | 0, i, hd, hi, hno => by
    obtain rfl : i = l1.length := by omega
    rw [List.take_length] at hno
    have ho : qJ l0 l1 = false := by
      unfold qJ
      rw [List.any_cons, hno, decide_eq_false (by omega), decide_eq_false (by omega)]
      rfl
    refine Ends.step (g := fun k => (bf.f k l0).bind fun t126 => (qa.l1 k t126 (⟨#[]⟩ : ByteArray) 0 l0 l1)) ?_ fun k => ?_
    · refine Ends.bind (zL l0 (by omega)) ?_
      cases hf : l0.all um with
      | true =>
        have hnum : ∀ n ∈ l0, Num n := fun n hn => iA (List.all_eq_true.1 hf n hn)
        have hjl := aC l0 hnum
        refine iT l0 l1 (by omega) hnum (by omega) h2 _ l0.length 0 [] (by omega) (by omega) (by simp; omega) ?_
        rw [List.drop_zero, List.nil_append]
        have hj := mal l0 l1 (by omega) h2 true (jo l0) (by omega)
        have hfl : uF l0 l1 = (true && l1.all fun l => l.all um) := by unfold uF; rw [List.all_cons, hf]
        rw [← hfl] at hj
        cases hf2 : uF l0 l1 with
        | true =>
          rw [hf2, if_pos rfl] at hj
          rw [← gaj l0 l1 ho hf2]
          exact hj
        | false =>
          rw [hf2, if_neg (by decide)] at hj
          have : lastB false [] = ji l0 l1 := by unfold lastB ji; rw [ho, hf2]; rfl
          rw [← this]
          exact hj
      | false =>
        have hfl : uF l0 l1 = false := by unfold uF; rw [List.all_cons, hf, Bool.false_and]
        have hj := mal l0 l1 (by omega) h2 false [] (by simp)
        have : lastB false [] = ji l0 l1 := by unfold lastB ji; rw [ho, hfl]; rfl
        rw [Bool.false_and, if_neg (by decide), this] at hj
        refine Ends.step hj fun k => ?_
        show qa.l1 (k + 1) false (⟨#[]⟩ : ByteArray) 0 l0 l1 = _
        simp only [qa.l1]
        by_cases h : (0 : Int) < (l0.length : Int)
        · rw [if_pos h, if_neg (by decide)]; rfl
        · rw [if_neg h]; rfl
    · show qa.l0 (k + 1) (l1.length : Int) l0 l1 = _
      simp only [qa.l0]
      rw [if_neg (by omega)]
  | d + 1, i, hd, hi, hno => by
    have hlt : i < l1.length := by omega
    by_cases hb : 2000 < l1[i].length
    · refine Ends.step (g := fun _ => some (ji l0 l1)) (.const fun _ => rfl) fun k => ?_
      show qa.l0 (k + 1) (i : Int) l0 l1 = _
      simp only [qa.l0]
      rw [if_pos (by omega), if_pos (by omega), dV hlt, if_pos (by omega)]
      have ho : qJ l0 l1 = true := by
        unfold qJ
        rw [Bool.or_eq_true]
        exact .inr (List.any_eq_true.2 ⟨l1[i], List.mem_cons_of_mem _ (List.getElem_mem hlt), decide_eq_true hb⟩)
      unfold ji
      rw [ho]
      rfl
    · have ih := iX l0 l1 h0 h1 h2 d (i + 1) (by omega) (by omega) (by rw [List.take_succ_eq_append_getElem hlt, List.any_append, hno]; simpa using hb)
      refine Ends.step ih fun k => ?_
      show qa.l0 (k + 1) (i : Int) l0 l1 = _
      simp only [qa.l0]
      rw [if_pos (by omega), if_pos (by omega), dV hlt, if_neg (by omega), w64 (by omega) (by omega)]
      rfl
theorem yah (l0 : List Int) (l1 : List (List Int)) (h0 : l0.length ≤ 3000) (h1 : l1.length ≤ 1000) (h2 : ∀ l ∈ l1, l.length ≤ 3000) : Ends (fun k => qa.f k l0 l1) (ji l0 l1) := by
  have key : ∀ b : Bool, b = (decide (2000 < l0.length) || decide (400 < l1.length)) → Ends (fun k => qa.j0 k b l0 l1) (ji l0 l1) := by
    intro b hb
    cases b with
    | true =>
      refine Ends.step (g := fun _ => some (ji l0 l1)) (.const fun _ => rfl) fun k => ?_
      show qa.j0 (k + 1) true l0 l1 = _
      simp only [qa.j0]
      rw [if_pos (by trivial)]
      unfold ji qJ
      rw [← hb]
      rfl
    | false =>
      have hb := hb.symm
      rw [Bool.or_eq_false_iff, decide_eq_false_iff_not, decide_eq_false_iff_not] at hb
      refine Ends.step (iX l0 l1 (by omega) (by omega) h2 l1.length 0 (by omega) (by omega) rfl) fun k => ?_
      show qa.j0 (k + 1) false l0 l1 = _
      simp only [qa.j0]
      rw [if_neg (by decide)]
      rfl
  by_cases h : 2000 < l0.length
  · refine (key true (by rw [decide_eq_true h]; rfl)).congr fun k => ?_
    show qa.f k l0 l1 = _
    unfold qa.f
    rw [if_pos (by omega)]
  · refine (key _ rfl).congr fun k => ?_
    show qa.f k l0 l1 = _
    unfold qa.f
    rw [if_neg (by omega), decide_eq_false h, Bool.false_or]
    congr 1
    simp only [decide_eq_decide]
    omega
end Go.Proofs.YtcbeheaiblgpfaaGreatDoor.Ask
end
noncomputable section
namespace Go.Proofs.YtcbeheaiblgpfaaGreatDoor.Ask
open Go.RowKit Go.Proofs.YtcbeheaiblgpfaaGreatDoorW.PrintWords Go.Proofs.YtcbeheaiblgpfaaGreatDoorW.PrintLast Go.Proofs.YtcbeheaiblgpfaaGreatDoorW.PrintMore
open Go.Lib (itoa)
def uu : Option Int → List UInt8
  | none => [124]
  | some n => itoa n
def toks (l0 : List Int) (l1 : List (List Int)) : List (Option Int) := l0.map some ++ l1.flatMap fun l => none :: l.map some
def blanks (ts : List (Option Int)) : List UInt8 := ts.flatMap fun t => 32 :: uu t
theorem gM (a b : List (Option Int)) : blanks (a ++ b) = blanks a ++ blanks b := by unfold blanks; rw [List.flatMap_append]
theorem gP (l : List Int) : jo l = blanks (l.map some) := by
  induction l with
  | nil => rfl
  | cons n l ih => rw [jo, ih]; rfl
theorem nad (r : List (List Int)) : vB r = blanks (r.flatMap fun l => none :: l.map some) := by
  induction r with
  | nil => rfl
  | cons l r ih =>
    rw [vB, ih, gP, List.flatMap_cons, gM]
    rfl
theorem bK (l0 : List Int) (l1 : List (List Int)) : fM l0 l1 = blanks (toks l0 l1) := by
  unfold fM toks
  rw [gM, gP, nad]
theorem y8 (t : Option Int) : (32 : UInt8) ∉ uu t := by
  cases t with
  | none => decide
  | some n => exact jaj
theorem wX : ∀ (t : List UInt8), (32 : UInt8) ∉ t → Lib.index t [32] = -1
  | [], _ => rfl
  | b :: t, h => by
    have hb : ¬ (32 : UInt8) = b := fun e => h (by rw [e]; exact List.mem_cons_self ..)
    rw [Lib.index, if_neg (by simp [List.isPrefixOf, hb]), wX t (fun e => h (List.mem_cons_of_mem _ e))]
    rfl
theorem index_hit : ∀ (t r : List UInt8), (32 : UInt8) ∉ t → Lib.index (t ++ 32 :: r) [32] = t.length
  | [], r, _ => by rw [List.nil_append, Lib.index, if_pos (by simp [List.isPrefixOf])]; try rfl
  | b :: t, r, h => by
    have hb : ¬ (32 : UInt8) = b := fun e => h (by rw [e]; exact List.mem_cons_self ..)
    have ih := index_hit t r (fun e => h (List.mem_cons_of_mem _ e))
    rw [List.cons_append, Lib.index, if_neg (by simp [List.isPrefixOf, hb]), ih, if_neg (by intro e; rw [beq_iff_eq] at e; omega)]
    simp
theorem nT : ∀ (ts : List (Option Int)) (t : Option Int), Lib.splitB (S [32]) 0 (Lib.countB (S (uu t ++ blanks ts)) (S [32])) (S (uu t ++ blanks ts)) = (t :: ts).map fun t => S (uu t)
  | [], t => by
    have e : uu t ++ blanks [] = uu t := by show uu t ++ [] = _; rw [List.append_nil]
    rw [e]
    have hi : Lib.indexB (S (uu t)) (S [32]) = -1 := wX _ (y8 t)
    rw [Lib.countB_miss _ _ hi]
    rfl
  | u :: ts, t => by
    have e : uu t ++ blanks (u :: ts) = uu t ++ 32 :: (uu u ++ blanks ts) := by unfold blanks; rw [List.flatMap_cons]; rfl
    rw [e]
    have hi : Lib.indexB (S (uu t ++ 32 :: (uu u ++ blanks ts))) (S [32]) = ((uu t).length : Nat) := index_hit _ _ (y8 t)
    have hx : (S (uu t ++ 32 :: (uu u ++ blanks ts))).extract ((uu t).length + (S [32]).size) (S (uu t ++ 32 :: (uu u ++ blanks ts))).size = S (uu u ++ blanks ts) := by
      apply tah
      rw [Lib.extract_to_end, oI, oI, eD, List.length_singleton, ← List.drop_drop, List.drop_left]
      rfl
    have h0 : (S (uu t ++ 32 :: (uu u ++ blanks ts))).extract 0 ((uu t).length + 0) = S (uu t) := by
      apply tah
      rw [Lib.extract_from_zero, oI, oI, Nat.add_zero, List.take_left]
    rw [Lib.countB_hit _ _ _ (by rw [eD]; exact Nat.le_refl _) hi, hx, Nat.add_comm 1, Lib.splitB_hit _ _ _ _ _ hi, h0, hx, nT ts u]
    rfl
def xA (st : List Int × List (List Int)) (t : Option Int) : List Int × List (List Int) :=
  match t with
  | none => (st.1, st.2 ++ [[]])
  | some n => if st.2.length = 0 then (st.1 ++ [n], st.2) else (st.1, st.2.set (st.2.length - 1) (st.2.getD (st.2.length - 1) [] ++ [n]))
theorem qan {n : Int} (h : Num n) : dar (S (itoa n)) = some n := by
  unfold dar
  rw [oI, zaa h]
  simp only
  rw [if_pos (by unfold um; rw [decide_eq_true h.1, decide_eq_true h.2]; rfl), if_pos (by trivial)]
theorem nK (ts : List (Option Int)) (hn : ∀ n, some n ∈ ts → Num n) (hl : ts.length ≤ 100000000) : ∀ (d i : Nat) (v : List Int) (p : List (List Int)), ts.length - i = d → i ≤ ts.length → v.length ≤ i → p.length ≤ i → (∀ q ∈ p, q.length ≤ i) →
    Ends (fun k => pg.l0 k (ts.map fun t => S (uu t)) (ts.length : Int) (i : Int) v p) (((ts.drop i).foldl xA (v, p)).1, ((ts.drop i).foldl xA (v, p)).2, 0)
  | 0, i, v, p, hd, hi, hv, hp, hq => by
    obtain rfl : i = ts.length := by omega
    refine Ends.step (g := fun _ => some (v, p, 0)) ?_ fun k => ?_
    · rw [List.drop_length]
      exact .const fun _ => rfl
    · show pg.l0 (k + 1) _ (ts.length : Int) (ts.length : Int) v p = _
      simp only [pg.l0]
      rw [if_neg (by omega)]
  | d + 1, i, v, p, hd, hi, hv, hp, hq => by
    have hlt : i < ts.length := by omega
    have hw : sM ByteArray.empty (ts.map fun t => S (uu t)) (i : Int) = S (uu ts[i]) := by unfold sM; simp [hlt]
    have hstep : (ts.drop i).foldl xA (v, p) = (ts.drop (i + 1)).foldl xA (xA (v, p) ts[i]) := by rw [List.drop_eq_getElem_cons hlt]; rfl
    rw [hstep]
    cases ht : ts[i] with
    | none =>
      have ih := nK ts hn hl d (i + 1) v (p ++ [[]]) (by omega) (by omega) (by omega) (by simp; omega) (fun q hq' => by
        rcases List.mem_append.1 hq' with h | h
        · have := hq q h; omega
        · rw [List.mem_singleton.1 h]; simp)
      refine Ends.step ih fun k => ?_
      show pg.l0 (k + 1) _ (ts.length : Int) (i : Int) v p = _
      simp only [pg.l0]
      rw [if_pos (by omega), if_pos (by omega), if_pos (by simp; omega), hw, ht, if_pos (show (S (uu none)).toList = ([124] : List UInt8) from rH _), if_pos (by omega), w64 (by omega) (by omega)]
      rfl
    | some n =>
      have hnum := hn n (by rw [← ht]; exact List.getElem_mem hlt)
      have hbar : ¬ (S (uu (some n))).toList = ([124] : List UInt8) := by rw [rH]; exact yar
      have hnf : zn.f (S (uu (some n))) 13 = some n := by unfold zn.f; rw [if_pos rfl]; exact qan hnum
      by_cases hp0 : p.length = 0
      · have ih := nK ts hn hl d (i + 1) (v ++ [n]) p (by omega) (by omega) (by simp; omega) (by omega) (fun q hq' => by have := hq q hq'; omega)
        rw [show xA (v, p) (some n) = (v ++ [n], p) from by unfold xA; simp only; rw [if_pos hp0]]
        refine Ends.step ih fun k => ?_
        show pg.l0 (k + 1) _ (ts.length : Int) (i : Int) v p = _
        simp only [pg.l0]
        rw [if_pos (by omega), if_pos (by omega), if_pos (by simp; omega), hw, ht, if_neg hbar, hnf, Option.bind_some, if_neg (by omega), if_pos (by omega), w64 (by omega) (by omega)]
        rfl
      · have e1 : wrap64 ((p.length : Int) - 1) = ((p.length - 1 : Nat) : Int) := by rw [w64 (by omega) (by omega)]; omega
        have e2 : ak p ((p.length - 1 : Nat) : Int) = p.getD (p.length - 1) [] := by unfold ak; simp
        have hlast : (p.getD (p.length - 1) []).length ≤ i := by
          have hlt' : p.length - 1 < p.length := by omega
          rw [List.getD_eq_getElem?_getD, List.getElem?_eq_getElem hlt']
          exact hq _ (List.getElem_mem hlt')
        have ih := nK ts hn hl d (i + 1) v (p.set (p.length - 1) (p.getD (p.length - 1) [] ++ [n])) (by omega) (by omega) (by omega) (by simp; omega) (fun q hq' => by
          rcases List.mem_or_eq_of_mem_set hq' with h | h
          · have := hq q h; omega
          · rw [h]; simp at hlast ⊢; omega)
        rw [show xA (v, p) (some n) = (v, p.set (p.length - 1) (p.getD (p.length - 1) [] ++ [n])) from by unfold xA; simp only; rw [if_neg hp0]]
        refine Ends.step ih fun k => ?_
        show pg.l0 (k + 1) _ (ts.length : Int) (i : Int) v p = _
        simp only [pg.l0]
        rw [if_pos (by omega), if_pos (by omega), if_pos (by simp; omega), hw, ht, if_neg hbar, hnf, Option.bind_some, if_pos (by omega), e1, if_pos (by omega), if_pos (by omega), e2, if_pos (by omega), w64 (by omega) (by omega)]
        rfl
theorem gao (l : List Int) : ∀ (v : List Int), (l.map some).foldl xA (v, []) = (v ++ l, []) := by
  induction l with
  | nil => intro v; simp
  | cons n l ih =>
    intro v
    rw [List.map_cons, List.foldl_cons, show xA (v, []) (some n) = (v ++ [n], []) from rfl, ih]
    simp
theorem gas (l : List Int) : ∀ (v : List Int) (p : List (List Int)) (q : List Int), (l.map some).foldl xA (v, p ++ [q]) = (v, p ++ [q ++ l]) := by
  induction l with
  | nil => intro v p q; simp
  | cons n l ih =>
    intro v p q
    have : xA (v, p ++ [q]) (some n) = (v, p ++ [q ++ [n]]) := by
      unfold xA
      simp only
      rw [if_neg (by simp)]
      simp
    rw [List.map_cons, List.foldl_cons, this, ih]
    simp
theorem fao (r : List (List Int)) : ∀ (v : List Int) (p : List (List Int)), (r.flatMap fun l => none :: l.map some).foldl xA (v, p) = (v, p ++ r) := by
  induction r with
  | nil => intro v p; simp
  | cons l r ih =>
    intro v p
    rw [List.flatMap_cons, List.foldl_append, List.foldl_cons, show xA (v, p) none = (v, p ++ [[]]) from rfl, gas, ih]
    simp
theorem eao (l0 : List Int) (l1 : List (List Int)) : (toks l0 l1).foldl xA ([], []) = (l0, l1) := by
  unfold toks
  rw [List.foldl_append, gao, fao]
  simp
theorem aai (ts : List (Option Int)) (t : Option Int) (hn : ∀ n, some n ∈ t :: ts → Num n) (hl : (t :: ts).length ≤ 100000000) (hz : (S (uu t ++ blanks ts)).size < 4294967281) :
    Ends (fun k => pg.f k (S (uu t ++ blanks ts))) (((t :: ts).foldl xA ([], [])).1, ((t :: ts).foldl xA ([], [])).2, 0) := by
  have h := nK (t :: ts) hn hl (t :: ts).length 0 [] [] (by omega) (by omega) (by simp) (by simp) (fun q hq => by cases hq)
  rw [List.drop_zero] at h
  refine h.congr fun k => ?_
  show pg.f k (S (uu t ++ blanks ts)) = _
  unfold pg.f
  have hs : strings_Split.f (S (uu t ++ blanks ts)) (⟨#[32]⟩ : ByteArray) = some ((t :: ts).map fun t => S (uu t)) := by
    unfold strings_Split.f
    rw [if_pos hz, if_pos (by decide), show (⟨#[32]⟩ : ByteArray) = S [32] from rfl, nT]
  rw [hs, Option.bind_some, List.length_map]
  rfl
theorem aW {l0 : List Int} {l1 : List (List Int)} (hf : uF l0 l1 = true) : ∀ n, some n ∈ toks l0 l1 → Num n := by
  unfold uF at hf
  rw [List.all_cons, Bool.and_eq_true] at hf
  intro n hn
  unfold toks at hn
  rcases List.mem_append.1 hn with h | h
  · obtain ⟨m, hm, e⟩ := List.mem_map.1 h
    cases e
    exact iA (List.all_eq_true.1 hf.1 n hm)
  · obtain ⟨l, hl, hm⟩ := List.mem_flatMap.1 h
    rcases List.mem_cons.1 hm with e | hm
    · cases e
    · obtain ⟨m, hm, e⟩ := List.mem_map.1 hm
      cases e
      exact iA (List.all_eq_true.1 (List.all_eq_true.1 hf.2 l hl) n hm)
theorem wap (l0 : List Int) (l1 : List (List Int)) (h2 : ∀ l ∈ l1, l.length ≤ 3000) : (toks l0 l1).length ≤ l0.length + 3001 * l1.length := by
  unfold toks
  rw [List.length_append, List.length_map]
  have : ∀ r : List (List Int), (∀ l ∈ r, l.length ≤ 3000) → (r.flatMap fun l => none :: l.map some).length ≤ 3001 * r.length := by
    intro r
    induction r with
    | nil => intro _; exact Nat.le_refl _
    | cons l r ih =>
      intro h
      have h1 := h l (List.mem_cons_self ..)
      have h3 := ih fun m hm => h m (List.mem_cons_of_mem _ hm)
      rw [List.flatMap_cons, List.length_append, List.length_cons, List.length_map, List.length_cons]
      omega
  have := this l1 h2
  omega
theorem qaI (t : Option Int) : uu t ≠ [] := by
  cases t with
  | none => decide
  | some n => exact wav
theorem mai (l0 : List Int) (l1 : List (List Int)) (h0 : l0.length ≤ 3000) (h1 : l1.length ≤ 1000) (h2 : ∀ l ∈ l1, l.length ≤ 3000) (ho : qJ l0 l1 = false) (hf : uF l0 l1 = true) :
    Ends (fun k => ai.f k (ji l0 l1).1) (l0, l1, 0) := by
  have hw : ji l0 l1 = (S ((fM l0 l1).drop 1), 0) := by
    unfold ji
    simp only [ho, hf, if_true, Bool.false_eq_true, if_false]
    rw [o8 _ (waa l0 l1)]
    rfl
  rw [hw, bK]
  have hft := eao l0 l1
  have hnum := aW hf
  have hlen := wap l0 l1 h2
  cases ht : toks l0 l1 with
  | nil =>
    rw [ht] at hft
    obtain ⟨rfl, rfl⟩ : l0 = [] ∧ l1 = [] := by
      have := Prod.mk.inj hft
      exact ⟨this.1.symm, this.2.symm⟩
    refine .const fun k => ?_
    show mJ k _ = _
    unfold mJ
    rw [if_pos (show (S ((blanks []).drop 1)).toList = [] from rH _)]
  | cons t ts =>
    rw [ht] at hft hnum hlen
    have hbl : (blanks (t :: ts)).drop 1 = uu t ++ blanks ts := by unfold blanks; rw [List.flatMap_cons]; rfl
    rw [hbl]
    have hne : ¬ (S (uu t ++ blanks ts)).toList = [] := by
      rw [rH]
      intro e
      exact qaI t (List.append_eq_nil_iff.1 e).1
    have hsz : (S (uu t ++ blanks ts)).size < 4294967281 := by
      rw [eD, ← hbl, ← ht, ← bK, List.length_drop]
      unfold fM
      rw [List.length_append]
      have g0 : ∀ n ∈ l0, Num n := fun n hn => aW hf n (by unfold toks; exact List.mem_append_left _ (List.mem_map.2 ⟨n, hn, rfl⟩))
      have g1 : ∀ l ∈ l1, l.length ≤ 3000 ∧ ∀ n ∈ l, Num n := fun l hl => ⟨h2 l hl, fun n hn => aW hf n (by unfold toks; exact List.mem_append_right _ (List.mem_flatMap.2 ⟨l, hl, List.mem_cons_of_mem _ (List.mem_map.2 ⟨n, hn, rfl⟩)⟩))⟩
      have := aC l0 g0
      have := yaa l1 g1
      omega
    have h := aai ts t hnum (by omega) hsz
    rw [hft] at h
    have hw' : ji l0 l1 = (S (uu t ++ blanks ts), 0) := by rw [hw, bK, ht, hbl]
    refine Ends.congr (g := fun k => (pg.f k (S (uu t ++ blanks ts))).bind fun t' => if t'.1.length ≤ 3000 ∧ t'.2.1.length ≤ 1000 ∧ (∀ l ∈ t'.2.1, l.length ≤ 3000) ∧ ji t'.1 t'.2.1 = (S (uu t ++ blanks ts), 0) then some (t'.1, t'.2.1, 0) else none) (Ends.bind h (.const fun k => ?_)) fun k => ?_
    · rw [if_pos ⟨h0, h1, h2, hw'⟩]
    · show mJ k _ = _
      unfold mJ
      rw [if_neg hne]
theorem kJ (l : List Int) (hl : l.length ≤ 100000) : ∀ (d i : Nat), l.length - i = d → i ≤ l.length → Ends (fun k => je.l0 k l l (i : Int)) true
  | 0, i, hd, hi => by
    obtain rfl : i = l.length := by omega
    refine Ends.step (g := fun _ => some true) (.const fun _ => rfl) fun k => ?_
    show je.l0 (k + 1) l l (l.length : Int) = _
    simp only [je.l0]
    rw [if_neg (by omega)]
  | d + 1, i, hd, hi => by
    have hlt : i < l.length := by omega
    refine Ends.step (kJ l hl d (i + 1) (by omega) (by omega)) fun k => ?_
    show je.l0 (k + 1) l l (i : Int) = _
    simp only [je.l0]
    rw [if_pos (by omega), if_pos (by omega), if_pos (by omega), if_pos (by trivial), w64 (by omega) (by omega)]
    rfl
theorem l9 (l : List Int) (hl : l.length ≤ 100000) : Ends (fun k => je.f k l l) true := by
  refine (kJ l hl l.length 0 (by omega) (by omega)).congr fun k => ?_
  show je.f k l l = _
  unfold je.f
  rw [if_pos rfl]
  rfl
theorem sI (l : List (List Int)) (hl : l.length ≤ 100000) (h2 : ∀ x ∈ l, x.length ≤ 3000) : ∀ (d i : Nat), l.length - i = d → i ≤ l.length → Ends (fun k => af.l0 k l l (i : Int)) true
  | 0, i, hd, hi => by
    obtain rfl : i = l.length := by omega
    refine Ends.step (g := fun _ => some true) (.const fun _ => rfl) fun k => ?_
    show af.l0 (k + 1) l l (l.length : Int) = _
    simp only [af.l0]
    rw [if_neg (by omega)]
  | d + 1, i, hd, hi => by
    have hlt : i < l.length := by omega
    have hx := h2 l[i] (List.getElem_mem hlt)
    refine Ends.step (g := fun k => (je.f k l[i] l[i]).bind fun t151 => (if t151 = true then (af.l0 k l l (((i + 1 : Nat)) : Int)) else (some false))) (Ends.bind (l9 l[i] (by omega)) ((sI l hl h2 d (i + 1) (by omega) (by omega)).congr fun k => by rw [if_pos rfl])) fun k => ?_
    show af.l0 (k + 1) l l (i : Int) = _
    simp only [af.l0]
    rw [if_pos (by omega), if_pos (by omega), if_pos (by omega), dV hlt, w64 (by omega) (by omega)]
    rfl
theorem aan (l0 : List Int) (l1 : List (List Int)) (h0 : l0.length ≤ 3000) (h1 : l1.length ≤ 1000) (h2 : ∀ x ∈ l1, x.length ≤ 3000) : Ends (fun k => laganlaw09_same.f k l0 l1 l0 l1) true := by
  refine Ends.congr (g := fun k => (je.f k l0 l0).bind fun t154 => (if t154 = true then ((af.f k l1 l1).bind fun t155 => (some t155)) else (some false))) (Ends.bind (l9 l0 (by omega)) ?_) fun k => ?_
  · refine Ends.congr (g := fun k => (af.f k l1 l1).bind fun t155 => some t155) (Ends.bind (a := true) ?_ (.const fun k => rfl)) fun k => by rw [if_pos rfl]
    refine (sI l1 (by omega) h2 l1.length 0 (by omega) (by omega)).congr fun k => ?_
    show af.f k l1 l1 = _
    unfold af.f
    rw [if_pos rfl]
    rfl
  · show laganlaw09_same.f k l0 l1 l0 l1 = _
    rfl
end Go.Proofs.YtcbeheaiblgpfaaGreatDoor.Ask
end
noncomputable section
namespace Go.Proofs.YtcbeheaiblgpfaaGreatDoor.Ask
open Go.RowKit Go.Proofs.YtcbeheaiblgpfaaGreatDoorW.PrintWords Go.Proofs.YtcbeheaiblgpfaaGreatDoorW.PrintLast Go.Proofs.YtcbeheaiblgpfaaGreatDoorW.PrintMore
section
variable (l0 : List Int) (l1 : List (List Int))
theorem tav (h0 : l0.length ≤ 3000) (h1 : l1.length ≤ 1000) (h2 : ∀ l ∈ l1, l.length ≤ 3000) : Ends (fun k => ja.j4 k (ji l0 l1).1 (ji l0 l1).2 ((ji l0 l1).1.toList != (ji l0 l1).1.toList) l0 l1) true := by
  have hb : ((ji l0 l1).1.toList != (ji l0 l1).1.toList) = false := by simp
  rw [hb]
  refine Ends.step (g := fun k => (ai.f k (ji l0 l1).1).bind fun bt171 => ((laganlaw09_known.f).bind fun t179 => (if t179 = true then (if bt171.2.2 = 0 then (if (ji l0 l1).2 = 0 then ((laganlaw09_same.f k l0 l1 bt171.1 bt171.2.1).bind fun t180 => (if t180 = true then (some true) else (some false))) else (some ((ji l0 l1).1.toList == ([] : List UInt8)))) else (some false)) else (some false)))) ?_ fun k => by
    show ja.j4 (k + 1) _ _ false l0 l1 = _
    simp only [ja.j4]
    rw [if_neg (by decide)]
  by_cases hok : qJ l0 l1 = false ∧ uF l0 l1 = true
  · have hw : (ji l0 l1).2 = 0 := by
      unfold ji
      simp only [hok.1, hok.2, if_true, Bool.false_eq_true, if_false]
    refine Ends.bind (mai l0 l1 h0 h1 h2 hok.1 hok.2) ?_
    refine Ends.congr (g := fun k => (laganlaw09_same.f k l0 l1 l0 l1).bind fun t180 => (if t180 = true then (some true) else (some false))) (Ends.bind (aan l0 l1 h0 h1 h2) (.const fun k => rfl)) fun k => ?_
    rw [show laganlaw09_known.f = some true from rfl, Option.bind_some, if_pos rfl, if_pos rfl, if_pos hw]
  · have hw : (ji l0 l1).1 = ⟨#[]⟩ ∧ (ji l0 l1).2 ≠ 0 := by
      unfold ji
      cases ho : qJ l0 l1 with
      | true => exact ⟨rfl, show (2 : Int) ≠ 0 by decide⟩
      | false =>
        cases hf : uF l0 l1 with
        | true => exact absurd ⟨ho, hf⟩ hok
        | false => exact ⟨rfl, show (1 : Int) ≠ 0 by decide⟩
    have he : (⟨#[]⟩ : ByteArray).toList = [] := rH []
    refine Ends.bind (a := ([], [], 0)) (.const fun k => ?_) (.const fun k => ?_)
    · show mJ k _ = _
      unfold mJ
      rw [hw.1, if_pos he]
    · rw [show laganlaw09_known.f = some true from rfl, Option.bind_some, if_pos rfl, if_pos rfl, if_neg hw.2, hw.1, he]
      rfl
theorem sav (h0 : l0.length ≤ 3000) (h1 : l1.length ≤ 1000) (h2 : ∀ l ∈ l1, l.length ≤ 3000) (x1 x2 x3 x11 : Int) (hx : ¬ x11 < x1) : Ends (fun k => ja.l1 k x1 x2 x3 x11 l0 l1) true := by
  refine Ends.step (g := fun k => (gm.f k l0 l1).bind fun bt167 => ((qa.f k l0 l1).bind fun bt169 => (if bt167.2 = bt169.2 then (ja.j4 k bt167.1 bt167.2 (bt167.1.toList != bt169.1.toList) l0 l1) else (ja.j4 k bt167.1 bt167.2 true l0 l1)))) ?_ fun k => by
    show ja.l1 (k + 1) x1 x2 x3 x11 l0 l1 = _
    simp only [ja.l1]
    rw [if_neg hx]
  refine Ends.bind (a := ji l0 l1) (.const fun k => ?_) (Ends.bind (yah l0 l1 h0 h1 h2) ((tav l0 l1 h0 h1 h2).congr fun k => ?_))
  · unfold gm.f
    rw [if_pos ⟨h0, h1, h2⟩]
  · rw [if_pos rfl]
end
theorem mae (a : Nat) (x : Int) : List.replicate a x ++ [x] = List.replicate (a + 1) x := by rw [List.replicate_succ']
theorem vX (l0 : List Int) (a1 a2 : Nat) (n : Int) (h2 : a2 ≤ 2003) (i : Nat) (P : List (List Int)) (hP : P.length ≤ 1000) (hr : Ends (fun k => ja.l1 k (a1 : Int) (a2 : Int) n (((i + 1 : Nat)) : Int) l0 (P ++ [List.replicate a2 n])) true) (hi : i < 403) : ∀ (d j : Nat), a2 - j = d → j ≤ a2 →
    Ends (fun k => ja.l2 k (a1 : Int) (a2 : Int) n (i : Int) (List.replicate j n) (j : Int) l0 P) true
  | 0, j, hd, hj => by
    obtain rfl : j = a2 := by omega
    refine Ends.step hr fun k => ?_
    show ja.l2 (k + 1) _ _ _ _ _ _ l0 P = _
    simp only [ja.l2]
    rw [if_neg (by omega), if_pos (by omega), w64 (by omega) (by omega)]
    rfl
  | d + 1, j, hd, hj => by
    have ih := vX l0 a1 a2 n h2 i P hP hr hi d (j + 1) (by omega) (by omega)
    refine Ends.step ih fun k => ?_
    show ja.l2 (k + 1) _ _ _ _ _ _ l0 P = _
    simp only [ja.l2]
    rw [if_pos (by omega), if_pos (by rw [List.length_replicate]; omega), w64 (by omega) (by omega), mae]
    rfl
theorem vW (l0 : List Int) (a1 a2 : Nat) (n : Int) (h0 : l0.length ≤ 3000) (h1 : a1 ≤ 403) (h2 : a2 ≤ 2003) : ∀ (d i : Nat), a1 - i = d → i ≤ a1 → Ends (fun k => ja.l1 k (a1 : Int) (a2 : Int) n (i : Int) l0 (List.replicate i (List.replicate a2 n))) true
  | 0, i, hd, hi => by
    refine sav l0 _ h0 (by rw [List.length_replicate]; omega) (fun l hl => ?_) _ _ _ _ (by omega)
    rw [(List.mem_replicate.1 hl).2, List.length_replicate]
    omega
  | d + 1, i, hd, hi => by
    have ih := vW l0 a1 a2 n h0 h1 h2 d (i + 1) (by omega) (by omega)
    have e : List.replicate i (List.replicate a2 n) ++ [List.replicate a2 n] = List.replicate (i + 1) (List.replicate a2 n) := by rw [List.replicate_succ']
    have := vX l0 a1 a2 n h2 i (List.replicate i (List.replicate a2 n)) (by rw [List.length_replicate]; omega) (by rw [e]; exact ih) (by omega) a2 0 (by omega) (by omega)
    refine Ends.step this fun k => ?_
    show ja.l1 (k + 1) _ _ _ _ l0 _ = _
    simp only [ja.l1]
    rw [if_pos (by omega)]
    rfl
theorem jT (a0 a1 a2 : Nat) (n : Int) (h0 : a0 ≤ 2003) (h1 : a1 ≤ 403) (h2 : a2 ≤ 2003) : ∀ (d i : Nat), a0 - i = d → i ≤ a0 → Ends (fun k => ja.l0 k (a0 : Int) (a1 : Int) (a2 : Int) n (i : Int) (List.replicate i n)) true
  | 0, i, hd, hi => by
    have h := vW (List.replicate i n) a1 a2 n (by rw [List.length_replicate]; omega) h1 h2 a1 0 (by omega) (by omega)
    refine Ends.step h fun k => ?_
    show ja.l0 (k + 1) _ _ _ _ _ _ = _
    simp only [ja.l0]
    rw [if_neg (by omega)]
    rfl
  | d + 1, i, hd, hi => by
    refine Ends.step (jT a0 a1 a2 n h0 h1 h2 d (i + 1) (by omega) (by omega)) fun k => ?_
    show ja.l0 (k + 1) _ _ _ _ _ _ = _
    simp only [ja.l0]
    rw [if_pos (by omega), if_pos (by rw [List.length_replicate]; omega), w64 (by omega) (by omega), mae]
    rfl
theorem iaf (a0 a1 a2 a3 : Int) : Ends (fun k => ja.j0 k a0 a1 a2 a3 true) true :=
  Ends.step (g := fun _ => some true) (.const fun _ => rfl) fun k => by
    show ja.j0 (k + 1) a0 a1 a2 a3 true = _
    simp only [ja.j0]
    rw [if_pos (by trivial)]
    rfl
theorem nal (a0 a1 a2 a3 : Int) (b : Bool) (h0 : 0 ≤ a0) (g0 : a0 ≤ 2003) (h1 : 0 ≤ a1) (g1 : a1 ≤ 403) (h2 : 0 ≤ a2) (g2 : a2 ≤ 2003) : Ends (fun k => ja.j0 k a0 a1 a2 a3 b) true := by
  cases b with
  | true => exact iaf a0 a1 a2 a3
  | false =>
    have h := jT a0.toNat a1.toNat a2.toNat a3 (by omega) (by omega) (by omega) a0.toNat 0 (by omega) (by omega)
    rw [Int.toNat_of_nonneg h0, Int.toNat_of_nonneg h1, Int.toNat_of_nonneg h2] at h
    refine Ends.step h fun k => ?_
    show ja.j0 (k + 1) a0 a1 a2 a3 false = _
    simp only [ja.j0]
    rw [if_neg (by decide)]
    rfl
theorem InquiryLong : ja.Pure := by
  intro a0 a1 a2 a3 _ _ _ _
  have key : ∀ (g : Nat → Option Bool), Ends g true → (∀ k, ja.f k a0 a1 a2 a3 = g k) → ∃ k, ja.f k a0 a1 a2 a3 = some true := fun g h e => by
    obtain ⟨k, hk⟩ := h.at
    exact ⟨k, (e k).trans hk⟩
  have ho := iaf a0 a1 a2 a3
  by_cases c1 : a0 < 0
  · exact key _ ho fun k => by unfold ja.f; rw [if_pos c1]
  by_cases c2 : a0 > 2003
  · exact key _ ho fun k => by unfold ja.f; rw [if_neg c1, if_pos c2]
  by_cases c3 : a1 < 0
  · exact key _ ho fun k => by unfold ja.f; rw [if_neg c1, if_neg c2, if_pos c3]
  by_cases c4 : a1 > 403
  · exact key _ ho fun k => by unfold ja.f; rw [if_neg c1, if_neg c2, if_neg c3, if_pos c4]
  by_cases c5 : a2 < 0
  · exact key _ ho fun k => by unfold ja.f; rw [if_neg c1, if_neg c2, if_neg c3, if_neg c4, if_pos c5]
  by_cases c6 : a2 > 2003
  · exact key _ ho fun k => by unfold ja.f; rw [if_neg c1, if_neg c2, if_neg c3, if_neg c4, if_neg c5, if_pos c6]
  by_cases c7 : a1 > 3
  · exact key _ (nal a0 a1 a2 a3 (decide (a2 > 5)) (by omega) (by omega) (by omega) (by omega) (by omega) (by omega)) fun k => by unfold ja.f; rw [if_neg c1, if_neg c2, if_neg c3, if_neg c4, if_neg c5, if_neg c6, if_pos c7]
  · exact key _ (nal a0 a1 a2 a3 false (by omega) (by omega) (by omega) (by omega) (by omega) (by omega)) fun k => by unfold ja.f; rw [if_neg c1, if_neg c2, if_neg c3, if_neg c4, if_neg c5, if_neg c6, if_neg c7]
end Go.Proofs.YtcbeheaiblgpfaaGreatDoor.Ask
end
