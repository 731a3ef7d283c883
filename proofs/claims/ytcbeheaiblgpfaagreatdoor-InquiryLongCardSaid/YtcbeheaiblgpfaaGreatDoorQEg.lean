/- The law InquiryLong: part Eg. -/
import Derived.Orders
import Derived.Test.YtcbeheaiblgpfaaGreatDoorQEf
set_option linter.unusedVariables false
set_option linter.unusedSimpArgs false
noncomputable section
namespace Go.Ev
theorem rY (m i : Nat) : bit m i = m.testBit i := by
 unfold bit
 rw [fq, Nat.testBit_eq_decide_div_mod_eq]
def maskAt (ops : List Oper) (j : Nat) : Nat := (bg (masks ops []) j).getD 0
theorem yT (acc : List Nat) : ∀ (es : List Edge) (s i : Nat), (pR acc es s).testBit i = true →
  s.testBit i = true ∨ ∃ e ∈ es, Region.binds .any e = true ∧ (i = e.on ∨ ((bg acc e.on).getD 0).testBit i = true)
 | [], s, i, h => .inl h
 | e :: es, s, i, h => by
  rw [pR] at h
  rcases yT acc es _ i h with h | ⟨e', hm, hb, hr⟩
  ·cases hb : Region.binds .any e with
   | false => rw [hb] at h; exact .inl h
   | true =>
    rw [hb, cond_true] at h
    change Nat.testBit (s ||| 2 ^ e.on ||| _) i = true at h
    rw [Nat.testBit_or, Nat.testBit_or, Nat.testBit_two_pow, Bool.or_eq_true, Bool.or_eq_true, decide_eq_true_eq] at h
    rcases h with (h | h) | h
    ·exact .inl h
    ·exact .inr ⟨e, List.mem_cons_self .., hb, .inl h.symm⟩
    ·exact .inr ⟨e, List.mem_cons_self .., hb, .inr h⟩
  ·exact .inr ⟨e', List.mem_cons_of_mem _ hm, hb, hr⟩
theorem nR : ∀ (l : List Oper) (acc : List Nat) (i : Nat), i < acc.length → (masks l acc)[i]? = acc[i]?
 | [], acc, i, h => rfl
 | o :: l, acc, i, h => by
  rw [masks, nR l _ i (by rw [yA]; simp; omega), yA, List.getElem?_append_left h]
theorem zO : ∀ (l : List Oper) (acc : List Nat), (masks l acc).length = acc.length + l.length
 | [], acc => rfl
 | o :: l, acc => by rw [masks, zO l, yA]; simp; omega
theorem aN : ∀ (l : List Oper) (acc : List Nat) (k : Nat) (o : Oper), l[k]? = some o → ∀ i, (((masks l acc)[acc.length + k]?).getD 0).testBit i = true →
  ∃ e ∈ o.after.toList, Region.binds .any e = true ∧ (i = e.on ∨ (e.on < acc.length + k ∧ (((masks l acc)[e.on]?).getD 0).testBit i = true))
 | [], acc, k, o, h, i, hb => by cases h
 | p :: l, acc, 0, o, h, i, hb => by
  cases h
  rw [masks, nR _ _ _ (by rw [yA]; simp), yA] at hb
  simp only [Nat.add_zero, List.getElem?_concat_length, Option.getD_some] at hb
  rcases yT acc _ _ i hb with h | ⟨e, hm, he, h⟩
  ·simp at h
  ·refine ⟨e, hm, he, h.imp id fun h => ?_⟩
   rw [zg] at h
   have hlt : e.on < acc.length := by
    rcases Nat.lt_or_ge e.on acc.length with h' | h'
    ·exact h'
    ·rw [List.getElem?_eq_none h'] at h; simp at h
   exact ⟨hlt, by rw [masks, nR _ _ _ (by rw [yA]; simp; omega), yA, List.getElem?_append_left hlt]; exact h⟩
 | p :: l, acc, k + 1, o, h, i, hb => by
  have e : (snoc acc (pR acc p.after.toList 0)).length + k = acc.length + (k + 1) := by rw [yA]; simp; omega
  have := aN l (snoc acc (pR acc p.after.toList 0)) k o (by simpa using h) i
  rw [e] at this
  rw [masks] at hb ⊢
  exact this hb
theorem wY {i : Nat} : ∀ {l : List Edge}, xY i l = true → ∀ e ∈ l, Region.binds .any e = true → e.on < i
 | e :: l, h, e', hm, hb => by
  unfold xY at h
  cases hc : (bif Region.binds .any e then Nat.blt e.on i else true) with
  | false => rw [hc] at h; cases h
  | true =>
   rw [hc, cond_true] at h
   rcases List.mem_cons.1 hm with rfl | hm
   ·rw [hb, cond_true, au, decide_eq_true_eq] at hc; exact hc
   ·exact wY h e' hm hb
theorem kak (l : List Oper) : ∀ (i : Nat), nS l i = true → ∀ k o, l[k]? = some o → ∀ e ∈ o.after.toList, Region.binds .any e = true → e.on < i + k := by
 induction l with
 | nil => intro i h k o ho; simp at ho
 | cons p l ih =>
  intro i h k o ho e he hb
  unfold nS at h
  cases hc : xY i p.after.toList with
  | false => rw [hc] at h; cases h
  | true =>
   rw [hc, cond_true] at h
   cases k with
   | zero => simp only [List.getElem?_cons_zero, Option.some.injEq] at ho; subst ho; exact wY hc e he hb
   | succ k => have := ih (i + 1) h k o (by simpa using ho) e he hb; omega
structure Lin (ops : Array Oper) (L : List Nat) : Prop where
 nodup : L.Nodup
 mem : ∀ i, i ∈ L ↔ i < ops.size
 behind : ∀ A j B, L = A ++ j :: B → ∀ o, ops[j]? = some o → ∀ e ∈ o.after.toList, Region.binds .any e = true → e.on ∈ A
theorem Lin.mask {ops : Array Oper} {L : List Nat} (h : Lin ops L) : ∀ (n : Nat) (A : List Nat) (j : Nat) (B : List Nat), A.length ≤ n → L = A ++ j :: B → ∀ i, bit (maskAt ops.toList j) i = true → i ∈ A := by
 intro n
 induction n with
 | zero =>
  intro A j B hn hL i hi
  rw [rY, maskAt, zg] at hi
  have hj : j < ops.size := (h.mem j).1 (by rw [hL]; simp)
  have ho : ops.toList[j]? = some ops[j] := by simp [hj]
  have := aN ops.toList [] j _ ho i (by simpa using hi)
  obtain ⟨e, hm, hb, _⟩ := this
  have := h.behind A j B hL _ (by simp) e hm hb
  rw [List.length_eq_zero_iff.1 (Nat.le_zero.1 hn)] at this; cases this
 | succ n ih =>
  intro A j B hn hL i hi
  rw [rY, maskAt, zg] at hi
  have hj : j < ops.size := (h.mem j).1 (by rw [hL]; simp)
  have ho : ops.toList[j]? = some ops[j] := by simp [hj]
  obtain ⟨e, hm, hb, hr⟩ := aN ops.toList [] j _ ho i (by simpa using hi)
  have hA := h.behind A j B hL _ (by simp) e hm hb
  rcases hr with rfl | ⟨_, hr⟩
  ·exact hA
  ·obtain ⟨A1, A2, rfl⟩ := List.append_of_mem hA
   have hlen : A1.length ≤ n := by simp at hn; omega
   have := ih A1 e.on (A2 ++ j :: B) hlen (by rw [hL]; simp) i (by rw [rY, maskAt, zg]; exact hr)
   exact List.mem_append.2 (.inl this)
theorem saa {p q : Nat → Bool} (hpq : ∀ x, q x = true → p x = true) {k : Nat} (hp : p k = true) (hq : q k = false) : ∀ l : List Nat, k ∈ l → l.countP q < l.countP p
 | x :: l, h => by
  have hle : l.countP q ≤ l.countP p := List.countP_mono_left fun x _ => hpq x
  rw [List.countP_cons, List.countP_cons]
  rcases List.mem_cons.1 h with rfl | h
  ·simp [hp, hq]; omega
  ·have := saa hpq hp hq l h
   by_cases hx : q x = true
   ·simp [hx, hpq x hx]; omega
   ·simp [hx]; split <;> omega
theorem saJ (ops : Array Oper) (hback : ∀ j o, ops[j]? = some o → ∀ e ∈ o.after.toList, Region.binds .any e = true → e.on < j) : ∀ (fuel t : Nat) (listed : Array Bool), listed.size = ops.size →
  (List.range ops.size).countP (fun i => !listed.getD i true) ≤ fuel →
  (Region.linearise.go .any ops fuel t listed []).Nodup ∧
  (∀ i, i ∈ Region.linearise.go .any ops fuel t listed [] ↔ i < ops.size ∧ listed.getD i true = false) ∧
  (∀ A j B, Region.linearise.go .any ops fuel t listed [] = A ++ j :: B → ∀ o, ops[j]? = some o → ∀ e ∈ o.after.toList, Region.binds .any e = true → e.on ∈ A ∨ listed.getD e.on false = true) := by
 intro fuel
 induction fuel with
 | zero =>
  intro t listed hs hf
  rw [Region.linearise.go]
  refine ⟨by simp, ?_, ?_⟩
  ·intro i
   constructor
   ·intro h; simp at h
   ·rintro ⟨h1, h2⟩
    have := (List.countP_pos_iff (p := fun i => !listed.getD i true) (l := List.range ops.size)).2 ⟨i, List.mem_range.2 h1, by simp [h2]⟩
    omega
  ·intro A j B h; simp at h
 | succ fuel ih =>
  intro t listed hs hf
  rw [Region.linearise.go]
  generalize hrs : (List.range ops.size).filter _ = rs
  have hmem : ∀ i, i ∈ rs ↔ i < ops.size ∧ listed.getD i true = false ∧ ∀ o, ops[i]? = some o → ∀ e ∈ o.after.toList, Region.binds .any e = true → listed.getD e.on false = true := by
   intro i
   rw [← hrs, List.mem_filter, List.mem_range]
   constructor
   ·rintro ⟨h1, h2⟩
    rw [Bool.and_eq_true] at h2
    refine ⟨h1, by simpa using h2.1, fun o ho e he hb => ?_⟩
    have h3 := h2.2
    rw [ho] at h3
    simp only [Option.map_some, Option.getD_some] at h3
    have := Array.all_eq_true'.1 h3 e (Array.mem_toList_iff.1 he)
    rw [hb] at this
    simpa using this
   ·rintro ⟨h1, h2, h3⟩
    refine ⟨h1, ?_⟩
    rw [Bool.and_eq_true]
    refine ⟨by rw [h2]; rfl, ?_⟩
    have ho : ops[i]? = some ops[i] := by simp [h1]
    rw [ho]
    simp only [Option.map_some, Option.getD_some]
    refine Array.all_eq_true'.2 fun e he => ?_
    cases hb : Region.binds .any e with
    | false => rfl
    | true => simpa using h3 _ ho e (Array.mem_toList_iff.2 he) hb
  have hnone : rs = [] → ∀ n i, i ≤ n → i < ops.size → listed.getD i true = true := by
   intro hr n
   induction n using Nat.strongRecOn with
   | _ n ihn =>
    intro i hle hi
    cases hl : listed.getD i true with
    | true => rfl
    | false =>
     have : i ∈ rs := (hmem i).2 ⟨hi, hl, fun o ho e he hb => by
      have hlt := hback i o ho e he hb
      have := ihn e.on (by omega) e.on (Nat.le_refl _) (by omega)
      simp only [Array.getD_eq_getD_getElem?] at this ⊢
      rw [Array.getElem?_eq_getElem (by omega)] at this ⊢
      exact this⟩
     rw [hr] at this; cases this
  cases hk : rs[t % rs.length]? with
  | none =>
   have hr : rs = [] := by
    rw [List.getElem?_eq_none_iff] at hk
    cases rs with
    | nil => rfl
    | cons a l => have := Nat.mod_lt t (show 0 < (a :: l).length by simp); omega
   refine ⟨by simp, ?_, ?_⟩
   ·intro i
    constructor
    ·intro h; simp at h
    ·rintro ⟨h1, h2⟩
     rw [hnone hr i i (Nat.le_refl _) h1] at h2; cases h2
   ·intro A j B h; simp at h
  | some i =>
   have hi : i ∈ rs := List.mem_of_getElem? hk
   obtain ⟨h1, h2, h3⟩ := (hmem i).1 hi
   have hset : ∀ x, (listed.setIfInBounds i true).getD x true = (if x = i then true else listed.getD x true) := by
    intro x
    simp only [Array.getD_eq_getD_getElem?, Array.getElem?_setIfInBounds]
    by_cases hx : x = i
    ·subst hx; simp; split <;> rfl
    ·rw [if_neg (Ne.symm hx), if_neg hx]
   have hset' : ∀ x, (listed.setIfInBounds i true).getD x false = true → x = i ∨ listed.getD x false = true := by
    intro x
    simp only [Array.getD_eq_getD_getElem?, Array.getElem?_setIfInBounds]
    by_cases hx : x = i
    ·exact fun _ => .inl hx
    ·rw [if_neg (Ne.symm hx)]; exact .inr
   have hcount : (List.range ops.size).countP (fun x => !(listed.setIfInBounds i true).getD x true) ≤ fuel := by
    have := saa (p := fun x => !listed.getD x true) (q := fun x => !(listed.setIfInBounds i true).getD x true) (k := i)
     (fun x hx => by rw [hset] at hx; by_cases he : x = i <;> simp_all) (by simp [h2]) (by simp [hset]) (List.range ops.size) (List.mem_range.2 h1)
    omega
   obtain ⟨g1, g2, g3⟩ := ih (t / rs.length) (listed.setIfInBounds i true) (by simpa using hs) hcount
   simp only
   rw [linearise_go_acc]
   simp only [List.reverse_cons, List.reverse_nil, List.nil_append, List.singleton_append]
   have hnot : i ∉ Region.linearise.go .any ops fuel (t / rs.length) (listed.setIfInBounds i true) [] := by
    intro hc
    have := ((g2 i).1 hc).2
    rw [hset, if_pos rfl] at this; cases this
   refine ⟨List.nodup_cons.2 ⟨hnot, g1⟩, ?_, ?_⟩
   ·intro x
    rw [List.mem_cons, g2 x, hset]
    by_cases hx : x = i
    ·subst hx; simp [h1, h2]
    ·simp [hx]
   ·intro A j B hL o ho e he hb
    cases A with
    | nil =>
     simp only [List.nil_append, List.cons.injEq] at hL
     obtain ⟨rfl, _⟩ := hL
     exact .inr (h3 o ho e he hb)
    | cons a A =>
     simp only [List.cons_append, List.cons.injEq] at hL
     obtain ⟨rfl, hL⟩ := hL
     rcases g3 A j B hL o ho e he hb with h | h
     ·exact .inl (List.mem_cons_of_mem _ h)
     ·rcases hset' _ h with rfl | h
      ·exact .inl (List.mem_cons_self ..)
      ·exact .inr h
theorem kac {ops : Array Oper} (hb : nS ops.toList 0 = true) (t : Nat) : Lin ops (Region.schedule true ops t) := by
 have hback : ∀ j o, ops[j]? = some o → ∀ e ∈ o.after.toList, Region.binds .any e = true → e.on < j := fun j o ho e he hbn => by
  have := kak _ _ hb j o (by simpa using ho) e he hbn; omega
 have h := saJ ops hback ops.size t (Array.replicate ops.size false) (by simp) (by
  have := List.countP_le_length (p := fun i => !(Array.replicate ops.size false).getD i true) (l := List.range ops.size)
  simpa using this)
 unfold Region.schedule
 simp only [Bool.true_or, if_true]
 unfold Region.linearise
 have hf : ∀ i, i < ops.size → (Array.replicate ops.size false).getD i true = false := by intro i hi; simp [hi]
 have hf' : ∀ i, (Array.replicate ops.size false).getD i false = false := by
  intro i
  simp only [Array.getD_eq_getD_getElem?, Array.getElem?_replicate]
  split <;> rfl
 refine ⟨h.1, fun i => ⟨fun hi => ((h.2.1 i).1 hi).1, fun hi => (h.2.1 i).2 ⟨hi, hf i hi⟩⟩, fun A j B hL o ho e he hbn => ?_⟩
 rcases h.2.2 A j B hL o ho e he hbn with h' | h'
 ·exact h'
 ·rw [hf'] at h'; cases h'
end Go.Ev
end
noncomputable section
namespace Go.Ev
open Go.RowKit (Below)
inductive iF (μ : Mu) : It → Item → Prop where
 | code (c : Code) : iF μ (.code c) (.code c)
 | inBlock (id : Nat) : iF μ (.inBlock id) (.inBlock id)
 | inLoop (c : Code) : iF μ (.inLoop c) (.inLoop c)
 | inScope (c : Code) : iF μ (.inScope c) (.inScope c)
 | reg (ops : Array Oper) (n : Nat) (rest : List Oper) : ops.toList.drop n = rest → iF μ (.reg ops.toList rest) (.inRegion ops (List.range' n rest.length))
 | inRange (l : Nat) (i : Info) : μ l = some i → iF μ (.inRange l) (.inRangeFunc i.r)
 | endRange (l : Nat) (i : Info) : μ l = some i → iF μ (.endRange l) (.endRangeFunc i.r)
 | beginRound : iF μ .beginRound .beginRound
inductive fw (μ : Mu) : List It → List Item → Prop where
 | nil : fw μ [] []
 | cons (a : It) (b : Item) (l : List It) (l' : List Item) : iF μ a b → fw μ l l' → fw μ (a :: l) (b :: l')
inductive tH (μ : Mu) : List (V × Bool) → List PanicEntry → Prop where
 | nil : tH μ [] []
 | cons (v : V) (r : Bool) (e : PanicEntry) (l : List (V × Bool)) (l' : List PanicEntry) : ze μ v e.v → e.recovered = r → e.goexit = false → tH μ l l' → tH μ ((v, r) :: l) (e :: l')
inductive sH (μ : Mu) : Option Nat → Option Nat → Prop where
 | none : sH μ .none .none
 | some (l : Nat) (i : Info) : μ l = .some i → sH μ (.some l) (.some i.r)
def blk : V → Option Nat
 | .ptr b _ => some b
 | .sl b _ _ _ => some b
 | _ => none
def ixs (p : List (Nat × Nat)) : List Nat := p.map Prod.fst
structure di (E : Env) (μ : Mu) (lo hi : Nat) (ops : Array Oper) (tm : List V) (rtm : Array Value) (pend : List Nat) (dn plan : List (Nat × Nat)) (X L' : List Nat) : Prop where
 hplan : pJ E ops.toList = some (dn ++ plan)
 hlin : Lin ops (X ++ L')
 hlen : tm.length = rtm.size
 hrel : ∀ d v, bg tm d = some v → (∀ i ∈ ixs dn, i ∉ X → zk ops.toList i ≠ some d) → ∃ rv, rtm[d]? = some rv ∧ ze μ v rv
 hsub : ∀ i ∈ X, i ∈ ixs dn
 hlate : ∀ i, (i, 2) ∈ dn → i ∈ X
 hpend : ∀ i ∈ ixs dn, i ∉ X → i ∈ pend
 hmem : ∀ i ∈ pend, i ∈ ixs dn ∧ (i, 2) ∉ dn
 hblock : ∀ i ∈ ixs dn, i ∉ X → (i, 1) ∈ dn → ∀ d v b, zk ops.toList i = some d → bg tm d = some v → blk v = some b → lo ≤ b ∧ b < hi ∧ μ b = none
 hapart : ∀ i ∈ ixs dn, i ∉ X → (i, 1) ∈ dn → ∀ j ∈ ixs dn, j ∉ X → (j, 1) ∈ dn → i ≠ j → ∀ d v b d' v' b', zk ops.toList i = some d → bg tm d = some v → blk v = some b →
  zk ops.toList j = some d' → bg tm d' = some v' → blk v' = some b' → b ≠ b'
inductive qz (E : Env) (μ : Mu) (lo hi : Nat) (tm : List V) (rtm : Array Value) : List It → List Item → Prop where
 | plain (l : List It) (l' : List Item) : ae μ tm rtm.toList → fw μ l l' → qz E μ lo hi tm rtm l l'
 | draw (ops : Array Oper) (ms pend : List Nat) (dn plan : List (Nat × Nat)) (X L' : List Nat) (k : List It) (k' : List Item) : ms = masks ops.toList [] →
   di E μ lo hi ops tm rtm pend dn plan X L' → fw μ k k' → qz E μ lo hi tm rtm (.dreg ops.toList ms pend plan :: k) (.inRegion ops L' :: k')
inductive pI (E : Env) (μ : Mu) (lo hi : Nat) (tm : List V) (rtm : Array Value) (todo : List It) (todo' : List Item) : Md → FrameMode → Prop where
 | run : qz E μ lo hi tm rtm todo todo' → pI E μ lo hi tm rtm todo todo' .run .run
 | returning : ae μ tm rtm.toList → pI E μ lo hi tm rtm todo todo' .returning .returning
 | panicking (ch : List (V × Bool)) (ch' : List PanicEntry) : ae μ tm rtm.toList → tH μ ch ch' → pI E μ lo hi tm rtm todo todo' (.panicking ch) (.panicking ch')
structure uB (E : Env) (μ : Mu) (lo hi : Nat) (f : F) (fr : Frame) : Prop where
 fn : f.fn = fr.fn
 kind : f.kind = fr.kind
 rnd : sH μ f.rnd fr.roundOf
 defers : zI μ f.defers fr.defers
 mode : pI E μ lo hi f.tm fr.tmps f.todo fr.todo f.mode fr.mode
def vU (f : F) (fr : Frame) : Prop :=
 match f.todo, fr.todo with
 | .dreg _ _ _ ((i, c) :: _) :: _, .inRegion _ L' :: _ => c = 2 ∧ ∃ R, L' = i :: R
 | .dreg _ _ _ [] :: _, _ => False
 | _, _ => True
inductive sQ (E : Env) (μ : Mu) (CS : List Frame) (n0 : Nat) : Nat → List F → List Frame → Prop where
 | nil (n : Nat) : sQ E μ CS n0 n [] CS
 | cons (n lo : Nat) (f : F) (fr : Frame) (l : List F) (l' : List Frame) : n0 ≤ lo → lo ≤ n → uB E μ lo n f fr → (f.mode = .run → vU f fr) → sQ E μ CS n0 lo l l' → sQ E μ CS n0 n (f :: l) (fr :: l')
section
variable {E : Env} {μ μ' : Mu}
theorem iF.mono (h : Ext μ μ') {a : It} {b : Item} (k : iF μ a b) : iF μ' a b := by
 cases k with
 | reg ops n rest hd => exact .reg ops n rest hd
 | inRange l i hi => exact .inRange l i (h _ _ hi)
 | endRange l i hi => exact .endRange l i (h _ _ hi)
 | _ => constructor
theorem fw.mono (h : Ext μ μ') {a : List It} {b : List Item} (k : fw μ a b) : fw μ' a b := by
 induction k with
 | nil => exact .nil
 | cons a b l l' h1 _ ih => exact .cons _ _ _ _ (h1.mono h) ih
theorem tH.mono (h : Ext μ μ') {a : List (V × Bool)} {b : List PanicEntry} (k : tH μ a b) : tH μ' a b := by
 induction k with
 | nil => exact .nil
 | cons v r e l l' h1 h2 h3 _ ih => exact .cons _ _ _ _ _ (h1.mono h) h2 h3 ih
theorem sH.mono (h : Ext μ μ') {a b : Option Nat} (k : sH μ a b) : sH μ' a b := by
 cases k with
 | none => exact .none
 | some l i hi => exact .some l i (h _ _ hi)
theorem di.mono {lo hi hi' n : Nat} {ops : Array Oper} {tm : List V} {rtm : Array Value} {pend : List Nat} {dn plan : List (Nat × Nat)} {X L' : List Nat}
  (h : sj μ n μ') (hn : hi ≤ n) (hh : hi ≤ hi') (k : di E μ lo hi ops tm rtm pend dn plan X L') : di E μ' lo hi' ops tm rtm pend dn plan X L' :=
 { k with
  hrel := fun d v hd hi => let ⟨rv, h1, h2⟩ := k.hrel d v hd hi; ⟨rv, h1, h2.mono h.ext⟩
  hblock := fun i hi hx h1 d v b hd hv hb => by
   obtain ⟨g1, g2, g3⟩ := k.hblock i hi hx h1 d v b hd hv hb
   exact ⟨g1, by omega, h.keep b (by omega) g3⟩ }
theorem qz.mono {lo hi hi' n : Nat} {tm : List V} {rtm : Array Value} {l : List It} {l' : List Item} (h : sj μ n μ') (hn : hi ≤ n) (hh : hi ≤ hi')
  (k : qz E μ lo hi tm rtm l l') : qz E μ' lo hi' tm rtm l l' := by
 cases k with
 | plain _ _ h1 h2 => exact .plain _ _ (h1.mono h.ext) (h2.mono h.ext)
 | draw ops ms pend dn plan X L' k k' h1 h2 h3 => exact .draw ops ms pend dn plan X L' k k' h1 (h2.mono h hn hh) (h3.mono h.ext)
theorem pI.mono {lo hi hi' n : Nat} {tm : List V} {rtm : Array Value} {l : List It} {l' : List Item} {m : Md} {m' : FrameMode} (h : sj μ n μ') (hn : hi ≤ n) (hh : hi ≤ hi')
  (k : pI E μ lo hi tm rtm l l' m m') : pI E μ' lo hi' tm rtm l l' m m' := by
 cases k with
 | run h1 => exact .run (h1.mono h hn hh)
 | returning h1 => exact .returning (h1.mono h.ext)
 | panicking ch ch' h1 h2 => exact .panicking ch ch' (h1.mono h.ext) (h2.mono h.ext)
theorem uB.mono {lo hi hi' n : Nat} {f : F} {fr : Frame} (h : sj μ n μ') (hn : hi ≤ n) (hh : hi ≤ hi') (k : uB E μ lo hi f fr) : uB E μ' lo hi' f fr :=
 ⟨k.fn, k.kind, k.rnd.mono h.ext, k.defers.mono h.ext, k.mode.mono h hn hh⟩
theorem sQ.mono {CS : List Frame} {n0 n n' : Nat} {l : List F} {l' : List Frame} (h : sj μ n μ') (hh : n ≤ n') (k : sQ E μ CS n0 n l l') : sQ E μ' CS n0 n' l l' := by
 induction k generalizing n' with
 | nil n => exact .nil _
 | cons n lo f fr l l' h0 h1 h2 h3 h4 ih => exact .cons n' lo f fr l l' h0 (by omega) (h2.mono h (Nat.le_refl _) hh) h3 (ih (h.le h1) (Nat.le_refl _))
theorem fw.cons_inv {a : It} {l : List It} {l' : List Item} (h : fw μ (a :: l) l') : ∃ b k, l' = b :: k ∧ iF μ a b ∧ fw μ l k := by
 cases h with
 | cons _ b _ k h1 h2 => exact ⟨b, k, rfl, h1, h2⟩
end
end Go.Ev
end
noncomputable section
namespace Go.Ev
open Go.RowKit (Below)
theorem vE {b c : Bool} (h : (bif b then c else false) = true) : b = true ∧ c = true := by cases b <;> simp_all
theorem bH (d : Nat) (l : List Nat) : bD d l = decide (d ∈ l) := by
 rw [fac, Bool.eq_iff_iff]; simp
theorem bX (i : Nat) : ∀ p : List (Nat × Nat), gaa i p = decide (i ∈ ixs p)
 | [] => by simp [gaa, ixs]
 | (j, c) :: p => by
  have := bX i p
  simp only [ixs] at this
  rw [gaa, this, fq, Bool.eq_iff_iff]
  simp only [ixs, List.map_cons, List.mem_cons, decide_eq_true_eq]
  by_cases h : i = j
  ·simp only [h, decide_true, cond_true, true_or]
  ·simp only [h, decide_false, cond_false, false_or]
   exact decide_eq_true_iff
theorem zW : ∀ p : List (Nat × Nat), gV p = true → (ixs p).Nodup
 | [], _ => by simp [ixs]
 | (i, c) :: p, h => by
  simp only [gV, bX] at h
  by_cases hm : i ∈ ixs p
  ·simp [hm] at h
  ·simp only [hm, decide_false, cond_false] at h
   exact List.nodup_cons.2 ⟨hm, zW p h⟩
theorem jY (p : List (Nat × Nat)) : ∀ (l : List Oper) (n : Nat), aad p l n = true → ∀ j, j < l.length → n + j ∈ ixs p
 | [], n, h, j, hj => by simp at hj
 | o :: l, n, h, j, hj => by
  obtain ⟨h1, h2⟩ := vE h
  rw [bX, decide_eq_true_eq] at h1
  cases j with
  | zero => exact h1
  | succ j => have := jY p l (n + 1) h2 j (by simpa using hj); rwa [show n + 1 + j = n + (j + 1) from by omega] at this
theorem iQ (ms : List Nat) (l : Nat) : ∀ r : List (Nat × Nat), lS ms l r = true → ∀ j ∈ ixs r, bit ((bg ms j).getD 0) l = true
 | [], _, j, h => by simp [ixs] at h
 | (i, c) :: r, h, j, hj => by
  obtain ⟨h1, h2⟩ := vE h
  simp only [ixs, List.map_cons, List.mem_cons] at hj
  rcases hj with rfl | hj
  ·exact h1
  ·exact iQ ms l r h2 j hj
theorem lW (ops : List Oper) (i d : Nat) : ∀ (l : List Oper) (ms : List Nat) (n : Nat), oab ops i d l ms n = true → ∀ (j : Nat) (x : Oper), l[j]? = some x → j < ms.length →
  (n + j = i ∧ d ∉ reads ops x) ∨ (n + j ≠ i ∧ x.dst ≠ some d ∧ (d ∈ reads ops x → ∃ m, ms[j]? = some m ∧ bit m i = true))
 | [], ms, n, h, j, x, hx, hj => by simp at hx
 | o :: l, [], n, h, j, x, hx, hj => by simp at hj
 | o :: l, m :: ms, n, h, j, x, hx, hj => by
  obtain ⟨h1, h2⟩ := vE h
  cases j with
  | zero =>
   simp only [List.getElem?_cons_zero, Option.some.injEq] at hx; subst hx
   rw [fq] at h1
   by_cases he : n = i
   ·simp only [he, decide_true, cond_true, bH, Bool.not_eq_true', decide_eq_false_iff_not] at h1
    exact .inl ⟨he, h1⟩
   ·simp only [he, decide_false, cond_false, Bool.and_eq_true, Bool.or_eq_true, bH, Bool.not_eq_true', decide_eq_false_iff_not] at h1
    refine .inr ⟨he, ?_, fun hr => ⟨m, rfl, h1.2.resolve_left fun hn => hn hr⟩⟩
    intro hd
    have := h1.1
    simp [isDst, hd, Nat.beq_refl] at this
  | succ j =>
   have := lW ops i d l ms (n + 1) h2 j x (by simpa using hx) (by simpa using hj)
   rw [show n + 1 + j = n + (j + 1) from by omega] at this
   exact this
structure kam (E : Env) (ops : List Oper) (p : List (Nat × Nat)) : Prop where
 back : nS ops 0 = true
 nodup : (ixs p).Nodup
 cover : ∀ j, j < ops.length → j ∈ ixs p
 behind : ∀ a l r, p = a ++ (l, 2) :: r → ∀ j ∈ ixs r, bit (maskAt ops j) l = true
 early : ∀ i c, (i, c) ∈ p → c ≠ 2 → ∃ o, ops[i]? = some o ∧ ((c = 0 ∧ qx E o.op = true ∧ gp o.op = false) ∨ (c = 1 ∧ gp o.op = true ∧ ∃ d, o.dst = some d)) ∧
  (∀ d, o.dst = some d → ∀ j x, ops[j]? = some x → (j = i ∧ d ∉ reads ops x) ∨ (j ≠ i ∧ x.dst ≠ some d ∧ (d ∈ reads ops x → bit (maskAt ops j) i = true)))
theorem wL (E : Env) (ops : List Oper) (ms : List Nat) : ∀ p, yab E ops ms p = true → ∀ a l r, p = a ++ (l, 2) :: r → ∀ j ∈ ixs r, bit ((bg ms j).getD 0) l = true
 | [], _, a, l, r, he, j, hj => by simp at he
 | (i, c) :: p, h, a, l, r, he, j, hj => by
  obtain ⟨h1, h2⟩ := vE h
  cases a with
  | nil =>
   simp only [List.nil_append, List.cons.injEq, Prod.mk.injEq] at he
   obtain ⟨⟨rfl, rfl⟩, rfl⟩ := he
   exact iQ ms i p (by simpa using h1) j hj
  | cons b a =>
   simp only [List.cons_append, List.cons.injEq] at he
   exact wL E ops ms p h2 a l r he.2 j hj
theorem sO (E : Env) (ops : List Oper) (ms : List Nat) : ∀ p, yab E ops ms p = true → ∀ i c, (i, c) ∈ p → c ≠ 2 → xac E ops ms i c = true
 | [], _, i, c, hm, hc => by simp at hm
 | (j, e) :: p, h, i, c, hm, hc => by
  obtain ⟨h1, h2⟩ := vE h
  rcases List.mem_cons.1 hm with he | hm
  ·cases he
   rw [fq] at h1
   simpa [hc] using h1
  ·exact sO E ops ms p h2 i c hm hc
theorem lC {E : Env} {ops : List Oper} {p : List (Nat × Nat)} (h : pJ E ops = some p) : kam E ops p := by
 unfold pJ at h
 simp only at h
 obtain ⟨h1, h2⟩ := si h
 simp only [Option.some.injEq] at h2
 rw [h2] at h1
 simp only [Bool.and_eq_true] at h1
 obtain ⟨⟨⟨g1, g2⟩, g3⟩, g4⟩ := h1
 refine ⟨g1, zW p g2, fun j hj => by simpa using jY p ops 0 g3 j hj, fun a l r he j hj => wL E ops _ p g4 a l r he j hj, fun i c hm hc => ?_⟩
 have := sO E ops _ p g4 i c hm hc
 unfold xac at this
 split at this
 ·rename_i o ho
  rw [zg] at ho
  simp only [Bool.and_eq_true] at this
  obtain ⟨k1, k2⟩ := this
  refine ⟨o, ho, ?_, ?_⟩
  ·rw [fq] at k1
   by_cases h0 : c = 0
   ·left
    simp only [h0, decide_true, cond_true, Bool.and_eq_true, Bool.not_eq_true'] at k1
    exact ⟨h0, k1⟩
   ·right
    simp only [h0, decide_false, cond_false, Bool.and_eq_true, fq, decide_eq_true_eq] at k1
    refine ⟨k1.1.1, k1.1.2, ?_⟩
    cases hd : o.dst with
    | none => rw [hd] at k1; simp at k1
    | some d => exact ⟨d, rfl⟩
  ·intro d hd j x hx
   rw [hd] at k2
   have hj : j < ops.length := by
    rcases Nat.lt_or_ge j ops.length with h | h
    ·exact h
    ·rw [List.getElem?_eq_none h] at hx; cases hx
   have := lW ops i d ops (masks ops []) 0 k2 j x hx (by rw [zO]; simpa using hj)
   rw [Nat.zero_add] at this
   refine this.imp id fun ⟨q1, q2, q3⟩ => ⟨q1, q2, fun hr => ?_⟩
   obtain ⟨m, hm, hb⟩ := q3 hr
   rw [maskAt, zg, hm]; exact hb
 ·cases this
theorem kr (a b : List (Nat × Nat)) : ixs (a ++ b) = ixs a ++ ixs b := by simp [ixs]
theorem aI {i c : Nat} {p : List (Nat × Nat)} (h : (i, c) ∈ p) : i ∈ ixs p := List.mem_map.2 ⟨_, h, rfl⟩
theorem vav {i : Nat} {p : List (Nat × Nat)} (h : i ∈ ixs p) : ∃ c, (i, c) ∈ p := by
 obtain ⟨⟨j, c⟩, h1, rfl⟩ := List.mem_map.1 h
 exact ⟨c, h1⟩
theorem fB {m j : Nat} : ∀ l : List Nat, j ∈ uo m l ↔ j ∈ l ∧ bit m j = false
 | [] => by simp [uo]
 | i :: l => by
  unfold uo
  cases hb : bit m i with
  | true =>
   simp only [cond_true, fB l, List.mem_cons]
   constructor
   ·rintro ⟨h1, h2⟩; exact ⟨.inr h1, h2⟩
   ·rintro ⟨rfl | h1, h2⟩
    ·rw [hb] at h2; cases h2
    ·exact ⟨h1, h2⟩
  | false =>
   simp only [cond_false, List.mem_cons, fB l]
   constructor
   ·rintro (rfl | ⟨h1, h2⟩)
    ·exact ⟨.inl rfl, hb⟩
    ·exact ⟨.inr h1, h2⟩
   ·rintro ⟨rfl | h1, h2⟩
    ·exact .inl rfl
    ·exact .inr ⟨h1, h2⟩
def iR (tmps : Array Value) (d : Option Nat) (v : Value) : Array Value := match d with | some d => tmps.setIfInBounds d v | none => tmps
theorem jy (tm : List V) (d : Option Nat) (v : V) (e : Nat) : bg (zo tm d v) e = if d = some e ∧ e < tm.length then some v else bg tm e := by
 cases d with
 | none => simp [zo]
 | some d =>
  simp only [zo, zg, jV, List.getElem?_set, Option.some.injEq]
  by_cases h : d = e
  ·subst h
   by_cases h2 : d < tm.length
   ·simp [h2]
   ·simp [h2] <;> omega
  ·simp [h]
theorem eaf (tm : Array Value) (d : Option Nat) (v : Value) (e : Nat) : (iR tm d v)[e]? = if d = some e ∧ e < tm.size then some v else tm[e]? := by
 cases d with
 | none => simp [iR]
 | some d =>
  simp only [iR, Array.getElem?_setIfInBounds, Option.some.injEq]
  by_cases h : d = e
  ·subst h
   by_cases h2 : d < tm.size
   ·simp [h2]
   ·simp [h2] <;> omega
  ·simp [h]
theorem vT (tm : List V) (d : Option Nat) (v : V) : (zo tm d v).length = tm.length := by cases d <;> simp [zo, jV]
theorem w9 (tm : Array Value) (d : Option Nat) (v : Value) : (iR tm d v).size = tm.size := by cases d <;> simp [iR]
section
variable {E : Env} {μ : Mu} {lo hi : Nat} {ops : Array Oper} {tm : List V} {rtm : Array Value} {pend : List Nat} {dn plan : List (Nat × Nat)} {X L' : List Nat}
theorem di.lC (k : di E μ lo hi ops tm rtm pend dn plan X L') : kam E ops.toList (dn ++ plan) := Ev.lC k.hplan
theorem di.xaI (k : di E μ lo hi ops tm rtm pend dn plan X L') {i d : Nat} {c : Nat} (hm : (i, c) ∈ dn ++ plan) (hc : c ≠ 2) (hd : zk ops.toList i = some d) :
  ∀ j x, ops.toList[j]? = some x → (j = i ∧ d ∉ reads ops.toList x) ∨ (j ≠ i ∧ x.dst ≠ some d ∧ (d ∈ reads ops.toList x → bit (maskAt ops.toList j) i = true)) := by
 obtain ⟨o, h1, h2, h3⟩ := k.lC.early i c hm hc
 refine h3 d ?_
 rw [zk, zg, h1] at hd
 exact hd
theorem di.mY (k : di E μ lo hi ops tm rtm pend dn plan X L') {i : Nat} (hi : i ∈ ixs dn) (hx : i ∉ X) : ∃ c, (i, c) ∈ dn ∧ c ≠ 2 := by
 obtain ⟨c, hc⟩ := vav hi
 exact ⟨c, hc, fun h => hx (k.hlate i (h ▸ hc))⟩
theorem di.dY (k : di E μ lo hi ops tm rtm pend dn plan X L') {i c : Nat} {r : List (Nat × Nat)} (hp : plan = (i, c) :: r) : i ∉ ixs dn := by
 have := k.lC.nodup
 rw [hp, kr] at this
 have := (List.nodup_append.1 this).2.2
 intro h
 exact this i h i (by simp [ixs]) rfl
theorem di.rar {i : Nat} {R : List Nat} {r : List (Nat × Nat)} {v : V} {rv : Value} (k : di E μ lo hi ops tm rtm pend dn ((i, 2) :: r) X (i :: R)) (hv : ze μ v rv) :
  di E μ lo hi ops (zo tm (zk ops.toList i) v) (iR rtm (zk ops.toList i) rv) (uo (maskAt ops.toList i) pend) (dn ++ [(i, 2)]) r (X ++ [i]) R := by
 have hpl := k.lC
 have hfresh := k.dY rfl
 have hne : ∀ j ∈ ixs dn, j ≠ i := fun j hj he => hfresh (he ▸ hj)
 have hi : i < ops.size := (k.hlin.mem i).1 (by simp)
 have hget : ops.toList[i]? = some ops[i] := by simp [hi]
 have hix : ∀ j, j ∈ ixs (dn ++ [(i, 2)]) → j ∉ X ++ [i] → j ∈ ixs dn ∧ j ∉ X := by
  intro j h1 h2
  have h3 : j ∈ ixs dn ∨ j = i := by simpa [ixs] using h1
  have h4 : j ∉ X ∧ j ≠ i := by simpa [not_or] using h2
  exact ⟨h3.resolve_right h4.2, h4.1⟩
 have hone : ∀ j, (j, 1) ∈ dn ++ [(i, 2)] → (j, 1) ∈ dn := by
  intro j h
  rcases List.mem_append.1 h with h | h
  ·exact h
  ·simp at h
 have hdst : ∀ j c, (j, c) ∈ dn → c ≠ 2 → ∀ d, zk ops.toList j = some d → zk ops.toList i ≠ some d := by
  intro j c hj hc d hd hcon
  rcases k.xaI (List.mem_append.2 (.inl hj)) hc hd i _ hget with ⟨h, _⟩ | ⟨_, h, _⟩
  ·exact hne j (aI hj) h.symm
  ·rw [zk, zg, hget] at hcon
   exact h hcon
 refine ⟨by rw [k.hplan]; simp, by simpa using k.hlin, by rw [vT, w9]; exact k.hlen, ?_, ?_, ?_, ?_, ?_, ?_, ?_⟩
 ·intro d v' hd hn
  rw [jy] at hd
  rw [eaf]
  by_cases hc : zk ops.toList i = some d ∧ d < tm.length
  ·rw [if_pos hc] at hd; cases hd
   exact ⟨rv, by rw [if_pos ⟨hc.1, by rw [← k.hlen]; exact hc.2⟩], hv⟩
  ·rw [if_neg hc] at hd
   rw [if_neg (by rw [← k.hlen]; exact hc)]
   refine k.hrel d v' hd fun j hj hx => ?_
   exact hn j (by rw [kr]; exact List.mem_append.2 (.inl hj)) (by simp only [List.mem_append, List.mem_singleton, not_or]; exact ⟨hx, hne j hj⟩)
 ·intro j hj
  rw [kr]
  rcases List.mem_append.1 hj with h | h
  ·exact List.mem_append.2 (.inl (k.hsub j h))
  ·simp only [List.mem_singleton] at h; subst h; exact List.mem_append.2 (.inr (by simp [ixs]))
 ·intro j hj
  rcases List.mem_append.1 hj with h | h
  ·exact List.mem_append.2 (.inl (k.hlate j h))
  ·simp at h; subst h; simp
 ·intro j hj hx
  obtain ⟨h1, h2⟩ := hix j hj hx
  rw [fB]
  refine ⟨k.hpend j h1 h2, ?_⟩
  cases hb : bit (maskAt ops.toList i) j with
  | false => rfl
  | true => exact absurd (k.hlin.mask X.length X i R (Nat.le_refl _) rfl j hb) h2
 ·intro j hj
  rw [fB] at hj
  obtain ⟨h1, h2⟩ := k.hmem j hj.1
  refine ⟨by rw [kr]; exact List.mem_append.2 (.inl h1), fun hc => ?_⟩
  rcases List.mem_append.1 hc with h | h
  ·exact h2 h
  ·simp at h; exact hne j h1 h
 ·intro j hj hx h1 d v' b hd hv' hb
  obtain ⟨g1, g2⟩ := hix j hj hx
  have g3 := hone j h1
  rw [jy, if_neg (fun hc => hdst j 1 g3 (by decide) d hd hc.1)] at hv'
  exact k.hblock j g1 g2 g3 d v' b hd hv' hb
 ·intro j hj hx h1 j' hj' hx' h1' hjj d v' b d' v'' b' hd hv' hb hd' hv'' hb'
  obtain ⟨g1, g2⟩ := hix j hj hx
  obtain ⟨g1', g2'⟩ := hix j' hj' hx'
  have g3 := hone j h1
  have g3' := hone j' h1'
  rw [jy, if_neg (fun hc => hdst j 1 g3 (by decide) d hd hc.1)] at hv'
  rw [jy, if_neg (fun hc => hdst j' 1 g3' (by decide) d' hd' hc.1)] at hv''
  exact k.hapart j g1 g2 g3 j' g1' g2' g3' hjj d v' b d' v'' b' hd hv' hb hd' hv'' hb'
theorem di.jao {i c : Nat} {r : List (Nat × Nat)} {v : V} {hi' : Nat} (k : di E μ lo hi ops tm rtm pend dn ((i, c) :: r) X L') (hc : c ≠ 2) (hh : hi ≤ hi')
  (hb : c = 1 → ∀ b, blk v = some b → b = hi ∧ lo ≤ hi ∧ hi < hi' ∧ μ hi = none) :
  di E μ lo hi' ops (zo tm (zk ops.toList i) v) rtm (i :: pend) (dn ++ [(i, c)]) r X L' := by
 have hpl := k.lC
 have hfresh := k.dY rfl
 have hne : ∀ j ∈ ixs dn, j ≠ i := fun j hj he => hfresh (he ▸ hj)
 have hiX : i ∉ X := fun h => hfresh (k.hsub i h)
 have hmem : ∀ j e, (j, e) ∈ dn ++ [(i, c)] → (j, e) ∈ dn ∨ (j = i ∧ e = c) := by
  intro j e h
  rcases List.mem_append.1 h with h | h
  ·exact .inl h
  ·simp at h; exact .inr h
 have hix : ∀ j, j ∈ ixs (dn ++ [(i, c)]) → j ∈ ixs dn ∨ j = i := by
  intro j h
  simpa [kr, ixs] using h
 have hdst : ∀ j e, (j, e) ∈ dn → e ≠ 2 → ∀ d, zk ops.toList j = some d → zk ops.toList i ≠ some d := by
  intro j e hj he d hd hcon
  cases ho : ops.toList[i]? with
  | none => rw [zk, zg, ho] at hcon; cases hcon
  | some o =>
   rcases k.xaI (List.mem_append.2 (.inl hj)) he hd i _ ho with ⟨h, _⟩ | ⟨_, h, _⟩
   ·exact hne j (aI hj) h.symm
   ·rw [zk, zg, ho] at hcon
    exact h hcon
 refine ⟨by rw [k.hplan]; simp, k.hlin, by rw [vT]; exact k.hlen, ?_, ?_, ?_, ?_, ?_, ?_, ?_⟩
 ·intro d v' hd hn
  have hnd := hn i (by simp [kr, ixs]) hiX
  rw [jy, if_neg (fun h => hnd h.1)] at hd
  exact k.hrel d v' hd fun j hj hx => hn j (by rw [kr]; exact List.mem_append.2 (.inl hj)) hx
 ·intro j hj; rw [kr]; exact List.mem_append.2 (.inl (k.hsub j hj))
 ·intro j hj
  rcases hmem j 2 hj with h | ⟨_, h⟩
  ·exact k.hlate j h
  ·exact absurd h.symm hc
 ·intro j hj hx
  rcases hix j hj with h | h
  ·exact List.mem_cons_of_mem _ (k.hpend j h hx)
  ·subst h; exact List.mem_cons_self ..
 ·intro j hj
  rcases List.mem_cons.1 hj with rfl | hj
  ·refine ⟨by simp [kr, ixs], fun h => ?_⟩
   rcases hmem j 2 h with h | ⟨_, h⟩
   ·exact hfresh (aI h)
   ·exact hc h.symm
  ·obtain ⟨h1, h2⟩ := k.hmem j hj
   refine ⟨by rw [kr]; exact List.mem_append.2 (.inl h1), fun h => ?_⟩
   rcases hmem j 2 h with h | ⟨_, h⟩
   ·exact h2 h
   ·exact hc h.symm
 ·intro j hj hx h1 d v' b hd hv' hbk
  rcases hmem j 1 h1 with h | ⟨rfl, h⟩
  ·rw [jy, if_neg (fun hc => hdst j 1 h (by decide) d hd hc.1)] at hv'
   obtain ⟨q1, q2, q3⟩ := k.hblock j (aI h) hx h d v' b hd hv' hbk
   exact ⟨q1, by omega, q3⟩
  ·rw [jy] at hv'
   by_cases hlt : d < tm.length
   ·rw [if_pos ⟨hd, hlt⟩] at hv'; cases hv'
    obtain ⟨rfl, q1, q2, q3⟩ := hb h.symm b hbk
    exact ⟨q1, q2, q3⟩
   ·rw [if_neg (fun h => hlt h.2), zg, List.getElem?_eq_none (by omega)] at hv'; cases hv'
 ·have key : ∀ j, (j, 1) ∈ dn → j ∉ X → c = 1 → ∀ d v' b d' v'' b', zk ops.toList j = some d → bg (zo tm (zk ops.toList i) v) d = some v' → blk v' = some b →
    zk ops.toList i = some d' → bg (zo tm (zk ops.toList i) v) d' = some v'' → blk v'' = some b' → b ≠ b' := by
   intro j h hx h1 d v' b d' v'' b' hd hv' hbk hd' hv'' hbk'
   rw [jy, if_neg (fun hc => hdst j 1 h (by decide) d hd hc.1)] at hv'
   obtain ⟨q1, q2, q3⟩ := k.hblock j (aI h) hx h d v' b hd hv' hbk
   rw [jy] at hv''
   by_cases hlt : d' < tm.length
   ·rw [if_pos ⟨hd', hlt⟩] at hv''; cases hv''
    obtain ⟨rfl, _⟩ := hb h1 b' hbk'
    omega
   ·rw [if_neg (fun h => hlt h.2), zg, List.getElem?_eq_none (by omega)] at hv''; cases hv''
  intro j hj hx h1 j' hj' hx' h1' hjj d v' b d' v'' b' hd hv' hbk hd' hv'' hbk'
  rcases hmem j 1 h1 with h | ⟨rfl, h⟩
  ·rcases hmem j' 1 h1' with h' | ⟨rfl, h'⟩
   ·rw [jy, if_neg (fun hc => hdst j 1 h (by decide) d hd hc.1)] at hv'
    rw [jy, if_neg (fun hc => hdst j' 1 h' (by decide) d' hd' hc.1)] at hv''
    exact k.hapart j (aI h) hx h j' (aI h') hx' h' hjj d v' b d' v'' b' hd hv' hbk hd' hv'' hbk'
   ·exact key j h hx h'.symm d v' b d' v'' b' hd hv' hbk hd' hv'' hbk'
  ·rcases hmem j' 1 h1' with h' | ⟨h', _⟩
   ·exact (key j' h' hx' h.symm d' v'' b' d v' b hd' hv'' hbk' hd hv' hbk).symm
   ·exact absurd h'.symm hjj
theorem di.pW {q : Nat} {R : List Nat} {μ' : Mu} {rv : Value} (k : di E μ lo hi ops tm rtm pend dn plan X (q :: R)) (hq : q ∈ ixs dn) (hx : Ext μ μ')
  (hv : ∀ d v, zk ops.toList q = some d → bg tm d = some v → ze μ' v rv)
  (hb : ∀ b, μ b = none → μ' b = none ∨ b < lo ∨ hi ≤ b ∨ ((q, 1) ∈ dn ∧ ∃ d v, zk ops.toList q = some d ∧ bg tm d = some v ∧ blk v = some b)) :
  di E μ' lo hi ops tm (iR rtm (zk ops.toList q) rv) pend dn plan (X ++ [q]) R := by
 have hqX : q ∉ X := by
  have := k.hlin.nodup
  intro h
  exact (List.nodup_append.1 this).2.2 q h q (by simp) rfl
 have hsplit : ∀ j, j ∉ X ++ [q] → j ∉ X ∧ j ≠ q := by
  intro j h
  simpa [List.mem_append, not_or] using h
 refine ⟨k.hplan, by simpa using k.hlin, by rw [w9]; exact k.hlen, ?_, ?_, fun j hj => List.mem_append.2 (.inl (k.hlate j hj)), fun j hj h => k.hpend j hj (hsplit j h).1, k.hmem, ?_, ?_⟩
 ·intro d v hd hn
  rw [eaf]
  by_cases hc : zk ops.toList q = some d ∧ d < rtm.size
  ·rw [if_pos hc]; exact ⟨rv, rfl, hv d v hc.1 hd⟩
  ·rw [if_neg hc]
   obtain ⟨rv', h1, h2⟩ := k.hrel d v hd (fun j hj hjx => by
    by_cases hjq : j = q
    ·subst hjq
     intro hcon
     apply hc
     refine ⟨hcon, ?_⟩
     rw [← k.hlen]
     rcases Nat.lt_or_ge d tm.length with h | h
     ·exact h
     ·rw [zg, List.getElem?_eq_none h] at hd; cases hd
    ·exact hn j hj (by simp [List.mem_append, hjx, hjq]))
   exact ⟨rv', h1, h2.mono hx⟩
 ·intro j hj
  rcases List.mem_append.1 hj with h | h
  ·exact k.hsub j h
  ·simp at h; subst h; exact hq
 ·intro j hj hjx h1 d v b hd hv' hbk
  obtain ⟨g1, g2⟩ := hsplit j hjx
  obtain ⟨q1, q2, q3⟩ := k.hblock j hj g1 h1 d v b hd hv' hbk
  refine ⟨q1, q2, ?_⟩
  rcases hb b q3 with h | h | h | ⟨h, d', v', hd', hv'', hbk'⟩
  ·exact h
  ·omega
  ·omega
  ·exact absurd rfl (k.hapart j hj g1 h1 q hq hqX h g2 d v b d' v' b hd hv' hbk hd' hv'' hbk')
 ·intro j hj hjx h1 j' hj' hjx' h1' hjj
  exact k.hapart j hj (hsplit j hjx).1 h1 j' hj' (hsplit j' hjx').1 h1' hjj
end
end Go.Ev
end
noncomputable section
namespace Go.Ev
open Go.RowKit (Below)
section
variable {P : Program} {fr : Frame} {cs : List Frame} {w w' : World} {s : Sem Next}
abbrev gor (fr : Frame) (cs : List Frame) : Goroutine := { frame := fr, callers := cs, status := .running, dying := none }
theorem yu (hm : fr.mode = .run) : stepG P true (gor fr cs) w = stepG.exec P true true fr cs none w := by
 simp [stepG, hm]
theorem nab (hm : fr.mode ≠ .run) : stepG P true (gor fr cs) w = unwind P true fr cs none w := by
 simp [stepG, hm]
theorem stepG_oper {ops : Array Oper} {i : Nat} {R : List Nat} {k : List Item} {o : Oper} (hm : fr.mode = .run) (ht : fr.todo = .inRegion ops (i :: R) :: k) (ho : ops[i]? = some o)
  (hw : Region.wanted o (yielded ops fr.tmps) = true) (hd : fr.roundOf = none ∨ ∀ c, o.op ≠ .defer c) :
  stepG P true (gor fr cs) w = stepG.apply P true fr cs none (execOp fr.eval o) w := by
 rw [yu hm, stepG.exec]
 simp only [ht, ho, Option.map_some, Option.getD_some, hw, if_true]
 rw [stepG.oper]
 simp only [Frame.oper?, ht, ho]
 rcases hd with hd | hd
 ·simp only [hd]
 ·split
  ·rename_i c _ h
   exact absurd h (hd _)
  ·rfl
theorem tL {ops : Array Oper} {i : Nat} {R : List Nat} {k : List Item} {o : Oper} (hm : fr.mode = .run) (ht : fr.todo = .inRegion ops (i :: R) :: k) (ho : ops[i]? = some o)
  (hw : Region.wanted o (yielded ops fr.tmps) = false) : step P (lone fr cs w) = .next (lone (fr.finish undef) cs w) := by
 refine step_lone_go ?_
 have := yu (P := P) (cs := cs) (w := w) hm
 rw [this, stepG.exec]
 simp only [ht, ho, Option.map_some, Option.getD_some, hw, Bool.false_eq_true, if_false, GStep.bare_go]
theorem cK {v : Value} (hr : s.run P w = .ok (.value v) w') : (stepG.apply P true fr cs none s w).bare = .go (gor (fr.finish v) cs) w' := by
 simp [stepG.apply, hr]
theorem zY (hr : s.run P w = .ok .skip w') : (stepG.apply P true fr cs none s w).bare = .go (gor (fr.finish undef) cs) w' := by
 simp [stepG.apply, hr]
theorem gah {f : FuncId} {args : Array Value} (hr : s.run P w = .ok (.enter f args) w') (hk : ∀ d r a l, fr.todo ≠ .call d true r a :: l) :
  (stepG.apply P true fr cs none s w).bare = .go (gor (Frame.enter P f args .normal) (fr :: cs)) w' := by
 simp only [stepG.apply, Sem.runT_eq, hr, GStep.bare_after, if_true, GStep.bare_go]
theorem eah {l f : Nat} {tm : Array Value} {a b : Code} (hr : s.run P w = .ok (.round l f tm a b) w') (hk : ∀ d r a l, fr.todo ≠ .call d true r a :: l) :
  (stepG.apply P true fr cs none s w).bare = .go (gor (Frame.round l f tm a b .normal) (fr :: cs)) w' := by
 simp only [stepG.apply, Sem.runT_eq, hr, GStep.bare_after, if_true, GStep.bare_go]
theorem iah {d : Deferred} (hr : s.run P w = .ok (.defer d) w') : (stepG.apply P true fr cs none s w).bare = .go (gor ({ fr with defers := d :: fr.defers }.finish undef) cs) w' := by
 simp [stepG.apply, hr]
theorem l7 (hr : s.run P w = .ok .recover w') (hn : fr.roundOf = none) : (stepG.apply P true fr cs none s w).bare =
  match tryRecover fr cs with
  | some (v, cs') => .go (gor (fr.finish v) cs') w'
  | none => .go (gor (fr.finish .nilIface) cs) w' := by
 simp only [stepG.apply, Sem.runT_eq, hr, GStep.bare_after, hn]
 cases tryRecover fr cs with
 | none => rfl
 | some x => rfl
theorem fah {v : Value} (hr : s.run P w = .halt (.panic v) w') : (stepG.apply P true fr cs none s w).bare = .go (gor (fr.raise [{ v, recovered := false }]) cs) w' := by
 simp [stepG.apply, hr]
end
theorem xm {o : Option V} {h h' : H} {n : Nat} {u : V} (he : ofO o h n = .val u h') : h' = h := by
 cases o with
 | none => cases he
 | some v => cases he; rfl
theorem oai {E : Env} {tm : List V} {op : Op} {h h' : H} {u : V} (hq : qx E op = true) (he : aop E tm op h = .val u h') : h' = h := by
 unfold aop at he
 cases op with
 | move x => cases he; rfl
 | assign x => cases he; rfl
 | pick c a b => simp only [iU] at he; (repeat' (first | (cases he; rfl) | (exact xm he) | (cases he; done) | (split at he) | (revert he; unfold cond; intro he)))
 | build t ps => exact xm he
 | load t a => exact xm he
 | nilCheck x => simp only [dw] at he; (repeat' (first | (cases he; rfl) | (exact xm he) | (cases he; done) | (split at he) | (revert he; unfold cond; intro he)))
 | binOp op t x y z => simp only [zS] at he; (repeat' (first | (cases he; rfl) | (exact xm he) | (cases he; done) | (split at he) | (revert he; unfold cond; intro he)))
 | unOp op t x => exact xm he
 | convert s d x =>
  simp only [qx] at hq
  simp only [iB, fQ] at he
  cases hs : has E s with
  | false => rw [hs] at he; cases he
  | true =>
   rw [hs, cond_true] at he
   split at he
   ·cases he; rfl
   ·cases he; rfl
   ·rename_i hd _; rw [hd] at hq; cases hq
   ·(repeat' (first | (cases he; rfl) | (exact xm he) | (cases he; done) | (split at he) | (revert he; unfold cond; intro he)))
   ·(repeat' (first | (cases he; rfl) | (exact xm he) | (cases he; done) | (split at he) | (revert he; unfold cond; intro he)))
   ·(repeat' (first | (cases he; rfl) | (exact xm he) | (cases he; done) | (split at he) | (revert he; unfold cond; intro he)))
   ·(repeat' (first | (cases he; rfl) | (exact xm he) | (cases he; done) | (split at he) | (revert he; unfold cond; intro he)))
   ·(repeat' (first | (cases he; rfl) | (exact xm he) | (cases he; done) | (split at he) | (revert he; unfold cond; intro he)))
 | makeInterface t x => simp only [bn] at he; (repeat' (first | (cases he; rfl) | (exact xm he) | (cases he; done) | (split at he) | (revert he; unfold cond; intro he)))
 | makeFunc fn a b => simp only [zy] at he; (repeat' (first | (cases he; rfl) | (exact xm he) | (cases he; done) | (split at he) | (revert he; unfold cond; intro he)))
 | slice t x l u m => simp only [nI] at he; (repeat' (first | (cases he; rfl) | (exact xm he) | (cases he; done) | (split at he) | (revert he; unfold cond; intro he)))
 | fieldAddr s x f => exact xm he
 | field s x f => exact xm he
 | indexAddr t x i => exact xm he
 | index t x i => exact xm he
 | lookup t x i ok => simp only [mD] at he; (repeat' (first | (cases he; rfl) | (exact xm he) | (cases he; done) | (split at he) | (revert he; unfold cond; intro he)))
 | typeAssert x t a ok => simp only [nu] at he; (repeat' (first | (cases he; rfl) | (exact xm he) | (cases he; done) | (split at he) | (revert he; unfold cond; intro he)))
 | extract t i => simp only [kz] at he; (repeat' (first | (cases he; rfl) | (exact xm he) | (cases he; done) | (split at he) | (revert he; unfold cond; intro he)))
 | call c =>
  obtain ⟨callee, args, ats⟩ := c
  cases callee with
  | builtin b =>
   simp only [qx] at hq
   simp only [dab] at he
   cases b <;> (try (cases hq; done)) <;> (simp only [eF] at he; first | (exact xm he) | (split at he <;> first | contradiction | (exact xm he) | (cases he; done)))
  | value f => cases hq
  | invoke a b => cases hq
 | _ => cases hq
theorem zH {P : Program} {w : World} (e : Nat) (rxs : Array Value) : (newRow e rxs).run P w = .ok ⟨w.heap.size, 0, none⟩ (w.alloc (.cells rxs e)) := rfl
section
variable {P : Program} {E : Env} {base : Nat} {w0 : World} {μ : Mu} {h : H} {w : World}
theorem cao (K : yh P E) {tm : List V} {o : Oper} {ρ : Operand → Value} (hx : ∀ x ∈ o.op.operands, ze μ (ev E tm x) (ρ x)) (hf : gp o.op = true) {u : V} {h' : H} (he : aop E tm o.op h = .val u h') :
  ∃ xs e rxs rv, h' = fresh h xs e false ∧ ae μ xs rxs.toList ∧ (execOp ρ o).run P w = .ok (.value rv) (w.alloc (.cells rxs e)) ∧
   ((u = .ptr h.next 0 ∧ rv = .pointer (some ⟨w.heap.size, 0, none⟩)) ∨ ∃ n, u = .sl h.next 0 n (some n) ∧ rv = .slice (some ⟨w.heap.size, 0, none⟩) n n) := by
 obtain ⟨dst, op, type, pos, after, guard⟩ := o
 simp only at hx hf he
 unfold aop at he
 cases op with
 | alloc t =>
  simp only [fF] at he
  split at he
  ·rename_i i ht
   cases he
   obtain ⟨z, hz, hzr, hzs⟩ := K.oz ht
   refine ⟨_, t, z.cells, .pointer (some ⟨w.heap.size, 0, none⟩), rfl, ae.cells (hzr μ), ?_, .inl ⟨rfl, rfl⟩⟩
   simp [execOp, Instr.alloc, hz, newVar, zH]
  ·cases he
 | box t x =>
  simp only [eae] at he
  split at he
  ·cases he
   refine ⟨_, t, (ρ x).cells, .pointer (some ⟨w.heap.size, 0, none⟩), rfl, ae.cells (hx x (by simp [Op.operands])), ?_, .inl ⟨rfl, rfl⟩⟩
   simp [execOp, Instr.box, newVar, zH]
  ·cases he
 | buildSlice t len ps =>
  have hp := mV (E := E) (μ := μ) (tm := tm) (ρ := ρ) ps.toList (fun p hp => hx p.2 (by simp [Op.operands]; exact ⟨p.1, by simpa using hp⟩))
  have e : ps.map (fun (i, x) => (i, ρ x)) = (ps.toList.map fun (i, x) => (i, ρ x)).toArray := by rw [← Array.toList_map, Array.toArray_toList]
  simp only [uq] at he
  split at he
  ·rename_i cs e' hb
   cases he
   simp only [execOp]
   rw [e]
   generalize hps : evp E tm ps.toList = aps at hb hp
   generalize hrs : (ps.toList.map fun (i, x) => (i, ρ x)) = rps at hp
   unfold iad at hb
   split at hb
   ·rename_i e' hd
    split at hb
    ·rename_i i ht
     obtain ⟨hle, hb⟩ := si hb
     rw [bu, decide_eq_true_eq] at hle
     split at hb
     ·rename_i cs' hf'
      cases hb
      obtain ⟨z, hz, hzr, hzs⟩ := K.oz ht
      have hud := K.desc hd (by simp)
      have hrow : ∀ n, ae μ (rJ n i.zero.cells []) ((List.replicate n z.cells.toList).flatten) := tq (ae.cells (hzr μ))
      have hrel : ae μ (rJ len i.zero.cells []) ((Array.range (len * i.size)).map ((if len * i.size = 0 then #[] else z.cells)[· % (if len * i.size = 0 then #[] else z.cells : Array Value).size]!)).toList := by
       by_cases h0 : len * i.size = 0
       ·rw [h0]
        rcases Nat.mul_eq_zero.1 h0 with h0 | h0
        ·subst h0; simpa [dH, eH] using ae.nil
        ·have := hrow len
         rw [List.eq_nil_of_length_eq_zero (l := z.cells.toList) (by simp [hzs, h0])] at this
         simpa using this
       ·rw [if_neg h0, ← hzs, uH _ _ (by rw [hzs]; exact Nat.pos_of_ne_zero fun h => h0 (by simp [h]))]
        exact hrow len
      obtain ⟨rr, h1, h2⟩ := vP (μ := μ) (fun j => some (j * i.size, i.size)) (wP i.size) (fun _ => rfl) (iN _) aps rps _ cs _ hp hrel hf'
      refine ⟨cs, _, rr, .slice (some ⟨w.heap.size, 0, none⟩) len len, rfl, h2, ?_, .inr ⟨len, rfl, rfl⟩⟩
      simp only [Instr.buildSlice, Sem.run_bind, run_underlying hud, Result.andThen_ok, K.ow ht, if_neg (Nat.not_lt.2 hle)]
      by_cases h0 : len * i.size = 0
      ·simp only [h0, if_true] at h1 ⊢
       simp only [Sem.run_bind, Sem.run_pure, Result.andThen_ok, h1, zH]
      ·simp only [h0, if_false] at h1 ⊢
       simp only [Sem.run_bind, hz, Sem.run_pure, Result.andThen_ok, h1, zH]
     ·cases hb
    ·cases hb
   ·cases hb
  ·cases he
 | _ => cases hf
end
end Go.Ev
end
noncomputable section
namespace Go.Ev
open Go.RowKit (Below)
section
variable {P : Program} {E : Env} {base : Nat} {w0 : World} {μ : Mu} {h : H} {w : World}
theorem wac {tm : List V} {fr : Frame} (G : sG E μ) {x : Operand} (hx : ∀ t, x = .tmp t → ze μ ((bg tm t).getD qg) (fr.tmps.getD t undef)) : ze μ (ev E tm x) (fr.eval x) := by
 cases x with
 | tmp t => exact hx t rfl
 | const v => exact ze.const μ v
 | global g =>
  simp only [ev, Frame.eval, au]
  by_cases hg : g < E.ng
  ·obtain ⟨i, h1, h2, h3⟩ := G g hg
   simp only [hg, decide_true, cond_true]
   have := ze.ptr (μ := μ) g 0 i h1
   rwa [h2, h3] at this
  ·simp only [hg, decide_false, cond_false]; exact .bad _ rfl
 | func f => exact .func _ _ _ _ _ _ (.func f) .nil .nil
theorem dA (μ : Mu) : ze μ qg undef := .tup _ _ .nil
theorem lH {tm : List V} {rtm : Array Value} {t : Nat} (hl : tm.length = rtm.size) (h : ∀ v, bg tm t = some v → ∃ rv, rtm[t]? = some rv ∧ ze μ v rv) : ze μ ((bg tm t).getD qg) (rtm.getD t undef) := by
 rw [Array.getD_eq_getD_getElem?]
 cases hv : bg tm t with
 | some v =>
  obtain ⟨rv, h1, h2⟩ := h v hv
  rw [h1]; exact h2
 | none =>
  rw [zg, List.getElem?_eq_none_iff] at hv
  rw [Array.getElem?_eq_none (by omega)]; exact dA μ
theorem ae.atT {tm : List V} {rtm : Array Value} (hv : ae μ tm rtm.toList) (t : Nat) : ∀ v, bg tm t = some v → ∃ rv, rtm[t]? = some rv ∧ ze μ v rv := by
 intro v h
 obtain ⟨rv, h1, h2⟩ := hv.get t v h
 exact ⟨rv, by simpa using h1, h2⟩
theorem ae.rax : ∀ {l : List V} {l' : List Value}, l.length = l'.length → (∀ t v, bg l t = some v → ∃ rv, l'[t]? = some rv ∧ ze μ v rv) → ae μ l l'
 | [], [], _, _ => .nil
 | v :: l, rv :: l', hl, h => by
  obtain ⟨x, h1, h2⟩ := h 0 v rfl
  simp only [List.getElem?_cons_zero, Option.some.injEq] at h1
  subst h1
  exact .cons _ _ _ _ h2 (ae.rax (by simpa using hl) fun t v hv => by simpa using h (t + 1) v hv)
theorem lM {ops : Array Oper} {tm : List V} {rtm : Array Value} {o : Oper} {b : Bool} (hl : tm.length = rtm.size)
  (hr : ∀ j want d, o.guard = some (j, want) → zk ops.toList j = some d → ∀ v, bg tm d = some v → ∃ rv, rtm[d]? = some rv ∧ ze μ v rv) (hw : zt ops.toList tm o = some b) :
  Region.wanted o (yielded ops rtm) = b := by
 unfold zt at hw
 unfold Region.wanted
 cases hg : o.guard with
 | none => rw [hg] at hw; simpa using hw
 | some p =>
  obtain ⟨j, want⟩ := p
  rw [hg] at hw
  simp only at hw ⊢
  have hdst : (ops[j]?).bind (·.dst) = zk ops.toList j := by
   rw [zk, zg, Array.getElem?_toList]
   cases ops[j]? <;> rfl
  rw [yielded, hdst]
  cases hd : zk ops.toList j with
  | none =>
   rw [hd] at hw
   simp only [Option.some.injEq] at hw
   subst hw; rfl
  | some d =>
   rw [hd] at hw
   simp only [Option.bind_some] at hw ⊢
   cases hv : bg tm d with
   | none =>
    rw [hv] at hw
    simp only [Option.some.injEq] at hw
    subst hw
    rw [zg, List.getElem?_eq_none_iff] at hv
    rw [Array.getElem?_eq_none (by omega)]; rfl
   | some v =>
    obtain ⟨rv, h1, h2⟩ := hr j want d hg hd v hv
    rw [hv] at hw
    rw [h1]
    cases h2 <;> simp only [Option.some.injEq] at hw <;> first | (subst hw; rfl) | (cases hw; done) | skip
variable {lo hi : Nat} {ops : Array Oper} {tm : List V} {rtm : Array Value} {pend : List Nat} {dn plan : List (Nat × Nat)} {X R : List Nat}
theorem di.zae {j : Nat} {o : Oper} (k : di E μ lo hi ops tm rtm pend dn plan X (j :: R)) (ho : ops[j]? = some o) {t : Nat} (ht : t ∈ reads ops.toList o) :
  ∀ v, bg tm t = some v → ∃ rv, rtm[t]? = some rv ∧ ze μ v rv := by
 intro v hv
 refine k.hrel t v hv fun i hi hx hd => ?_
 obtain ⟨c, hc, hc2⟩ := k.mY hi hx
 rcases k.xaI (List.mem_append.2 (.inl hc)) hc2 hd j o (by simpa using ho) with ⟨_, h⟩ | ⟨_, _, h⟩
 ·exact h ht
 ·exact hx (k.hlin.mask X.length X j R (Nat.le_refl _) rfl i (h ht))
theorem gW {t : Nat} : ∀ l : List Operand, .tmp t ∈ l → t ∈ tmpsOf l
 | x :: l, h => by
  rcases List.mem_cons.1 h with rfl | h
  ·exact List.mem_cons_self ..
  ·have := gW l h
   cases x <;> simp only [tmpsOf] <;> first | exact List.mem_cons_of_mem _ this | exact this
theorem han {ops : List Oper} {o : Oper} {t : Nat} (h : .tmp t ∈ o.op.operands) : t ∈ reads ops o := by
 have := gW _ (Array.mem_toList_iff.2 h)
 unfold reads
 split
 ·split
  ·exact List.mem_cons_of_mem _ this
  ·exact this
 ·exact this
theorem yae {ops : List Oper} {o : Oper} {j d : Nat} {want : Bool} (hg : o.guard = some (j, want)) (hd : zk ops j = some d) : d ∈ reads ops o := by
 unfold reads
 rw [hg]
 simp only [hd]
 exact List.mem_cons_self ..
theorem di.operands {j : Nat} {o : Oper} {fr : Frame} (G : sG E μ) (k : di E μ lo hi ops tm fr.tmps pend dn plan X (j :: R)) (ho : ops[j]? = some o) :
  ∀ x ∈ o.op.operands, ze μ (ev E tm x) (fr.eval x) := by
 intro x hx
 refine wac G fun t ht => lH k.hlen (k.zae ho (han (by rw [← ht]; exact hx)))
theorem di.tQ {j : Nat} {o : Oper} {b : Bool} (k : di E μ lo hi ops tm rtm pend dn plan X (j :: R)) (ho : ops[j]? = some o) (hw : zt ops.toList tm o = some b) :
  Region.wanted o (yielded ops rtm) = b :=
 lM k.hlen (fun i want d hg hd => k.zae ho (yae hg hd)) hw
theorem oC {fr : Frame} {i : Nat} {k : List Item} (ht : fr.todo = .inRegion ops (i :: R) :: k) (v : Value) :
  fr.finish v = { fr with tmps := iR fr.tmps (zk ops.toList i) v, todo := .inRegion ops R :: k } := by
 have hdst : (ops[i]?).bind (·.dst) = zk ops.toList i := by
  rw [zk, zg, Array.getElem?_toList]
  cases ops[i]? <;> rfl
 simp only [Frame.finish, ht, hdst, iR]
 cases zk ops.toList i <;> rfl
theorem gan (K : yh P E) (Xt : jF P E) (G : sG E μ) (k : yg E base w0 μ h w) {fr : Frame} {q : Nat} {todo : List Item} {cs : List Frame}
  (D : di E μ lo hi ops tm fr.tmps pend dn plan X (q :: R)) (hq : q ∈ ixs dn) (hlo : lo ≤ hi) (hhi : hi ≤ h.next) (ha : qC E ops.toList tm h q = true) (hm : fr.mode = .run)
  (ht : fr.todo = .inRegion ops (q :: R) :: todo) :
  ∃ μ' w' rtm', step P (lone fr cs w) = .next (lone { fr with tmps := rtm', todo := .inRegion ops R :: todo } cs w') ∧ sj μ lo μ' ∧ yg E base w0 μ' h w' ∧
   di E μ' lo hi ops tm rtm' pend dn plan (X ++ [q]) R := by
 have hqX : q ∉ X := by
  have := D.hlin.nodup
  intro h
  exact (List.nodup_append.1 this).2.2 q h q (by simp) rfl
 obtain ⟨c, hc, hc2⟩ := D.mY hq hqX
 obtain ⟨o, ho, hcls, _⟩ := D.lC.early q c (List.mem_append.2 (.inl hc)) hc2
 have ho' : ops[q]? = some o := by simpa using ho
 have hdst : zk ops.toList q = o.dst := by rw [zk, zg, ho]
 have hopd := D.operands G ho'
 unfold qC at ha
 rw [zg, ho] at ha
 simp only at ha
 cases hw : zt ops.toList tm o with
 | none => rw [hw] at ha; cases ha
 | some b =>
 rw [hw] at ha
 have hwr := D.tQ ho' hw
 cases b with
 | false =>
  simp only at ha
  refine ⟨μ, w, iR fr.tmps (zk ops.toList q) undef, ?_, sj.refl _ _, k, ?_⟩
  ·rw [tL hm ht ho' hwr, oC ht]
  ·refine D.pW hq (Ext.refl _) ?_ (fun b hb => .inl hb)
   intro d v hd hv
   rw [hdst] at hd
   rw [hd] at ha
   simp only [hv] at ha
   rw [uQ _ _ ha]; exact dA _
 | true =>
  simp only at ha
  cases hop : aop E tm o.op h with
  | val u h' =>
   rw [hop] at ha
   simp only at ha
   have hnd : fr.roundOf = none ∨ ∀ c, o.op ≠ .defer c := by
    refine .inr fun c hc => ?_
    rcases hcls with ⟨_, h1, _⟩ | ⟨_, h1, _⟩ <;> (rw [hc] at h1; cases h1)
   have hstep : ∀ rv w', (execOp fr.eval o).run P w = .ok (.value rv) w' →
     step P (lone fr cs w) = .next (lone { fr with tmps := iR fr.tmps (zk ops.toList q) rv, todo := .inRegion ops R :: todo } cs w') := by
    intro rv w' hr
    refine step_lone_go ?_
    rw [← oC ht]
    have := stepG_oper (P := P) (cs := cs) (w := w) hm ht ho' hwr hnd
    rw [this]
    exact cK hr
   rcases hcls with ⟨_, hquiet, hnf⟩ | ⟨hc1, hfresh, d, hd⟩
   ·have hsame := oai hquiet hop
    subst hsame
    have hgot := jat K Xt G k hopd
    rw [hop] at hgot
    obtain ⟨μ', rv, w', hr, hext, hk', hv⟩ := hgot
    refine ⟨μ', w', _, hstep rv w' hr, hext.le (by omega), hk', ?_⟩
    refine D.pW hq hext.ext ?_ ?_
    ·intro d v hd hv'
     rw [hdst] at hd
     rw [hd] at ha
     simp only [hv', hnf, cond_false] at ha
     rw [← uQ _ _ ha]; exact hv
    ·intro b hb
     by_cases hlt : b < h'.next
     ·exact .inl (hext.keep b hlt hb)
     ·exact .inr (.inr (.inl (by omega)))
   ·rw [hd] at ha
    simp only [hfresh, cond_true] at ha
    cases hv : bg tm d with
    | none => rw [hv] at ha; cases ha
    | some v =>
    rw [hv] at ha
    simp only at ha
    subst hc1
    obtain ⟨xs, e, rxs, rv, rfl, hxs, hr, hshape⟩ := cao K hopd hfresh hop (w := w) (P := P)
    have hnew : (fresh h xs e false).get h.next = some (.cells xs e false false 0 0 false) := by rw [fresh, H.wu, if_pos rfl]
    have hblk : ∀ b, blk v = some b → lo ≤ b ∧ b < hi ∧ μ b = none := fun b hb => D.hblock q hq hqX hc d v b (by rw [hdst]; exact hd) hv hb
    have key : ∀ b, blk v = some b → h.get b = some (.cells xs e false false 0 0 false) → (∀ i, i.r = w.heap.size → i.sh = 0 → ze (μ.upd b i) v rv) →
      ∃ μ' w' rtm', step P (lone fr cs w) = .next (lone { fr with tmps := rtm', todo := .inRegion ops R :: todo } cs w') ∧ sj μ lo μ' ∧ yg E base w0 μ' h w' ∧
      di E μ' lo hi ops tm rtm' pend dn plan (X ++ [q]) R := by
     intro b hb hg hvr
     obtain ⟨g1, g2, g3⟩ := hblk b hb
     have hext : sj μ b (μ.upd b ⟨w.heap.size, 0, false, rxs.size, oh E e, false, nofun⟩) := sj.upd g3
     refine ⟨μ.upd b ⟨w.heap.size, 0, false, rxs.size, oh E e, false, nofun⟩, _, _, hstep rv _ hr, hext.le g1, ?_, ?_⟩
     ·refine k.late b _ _ _ g3 (by omega) hg rfl ?_ rfl
      have hlen := hxs.length
      refine .cells xs e false false 0 0 false rxs 0 0 rfl rfl (fun t ht => (zG ht).symm) (by simp [hlen]) ?_ (fun _ => ⟨rfl, by simp [hlen]⟩) (fun _ => ⟨fun j _ => by simp, fun _ => ⟨fun _ => rfl, fun h => absurd rfl h⟩⟩)
      have he : (List.take xs.length (List.drop 0 rxs.toList)) = rxs.toList := by rw [List.drop_zero, hlen]; exact List.take_length
      rw [he]; exact hxs.mono hext.ext
     ·refine D.pW hq hext.ext ?_ ?_
      ·intro d' v' hd' hv'
       rw [hdst, hd] at hd'; cases hd'
       rw [hv] at hv'; cases hv'
       exact hvr _ rfl rfl
      ·intro b' hb'
       by_cases he : b' = b
       ·subst he
        exact .inr (.inr (.inr ⟨hc, d, v, by rw [hdst]; exact hd, hv, hb⟩))
       ·exact .inl (by rw [Mu.uk _ _ he]; exact hb')
    rcases hshape with ⟨rfl, rfl⟩ | ⟨n, rfl, rfl⟩
    ·unfold sN at ha
     split at ha
     ·rename_i b _ _ he
      cases he
      rw [hnew] at ha
      split at ha
      ·rename_i xs' e1 ys e' hg heq
       cases heq
       simp only [Bool.and_eq_true, fq, decide_eq_true_eq] at ha
       obtain ⟨h1, h2⟩ := ha
       have := wH _ _ h2
       subst this; subst h1
       refine key b rfl hg fun i hi hs => ?_
       have := ze.ptr (μ := μ.upd b i) b 0 i (Mu.upd_same _ _ _)
       rwa [hi, hs] at this
      ·cases ha
     ·rename_i he; cases he
     ·cases ha
    ·unfold sN at ha
     split at ha
     ·rename_i he; cases he
     ·rename_i b n' c' _ _ _ _ he
      cases he
      rw [hnew] at ha
      split at ha
      ·rename_i xs' e1 ys e' hg heq
       cases heq
       simp only [Bool.and_eq_true, fq, decide_eq_true_eq] at ha
       obtain ⟨⟨⟨h1, h2⟩, h3⟩, h4⟩ := ha
       have := wH _ _ h2
       subst this; subst h1; subst h3; subst h4
       refine key b rfl hg fun i hi hs => ?_
       have := ze.slE (μ := μ.upd b i) b 0 n' n' i (Mu.upd_same _ _ _)
       rwa [hi, hs] at this
      ·cases ha
     ·cases ha
  | _ => rw [hop] at ha; cases ha
theorem oW (K : yh P E) (Xt : jF P E) {todo : List Item} {cs : List Frame} (hlo : lo ≤ hi) (hhi : hi ≤ h.next) (R : List Nat) :
  ∀ (Q : List Nat) {μ : Mu} {w : World} {fr : Frame} {X : List Nat}, sG E μ → yg E base w0 μ h w → di E μ lo hi ops tm fr.tmps pend dn plan X (Q ++ R) → (∀ q ∈ Q, q ∈ ixs dn) →
  ku E ops.toList tm h pend = true → fr.mode = .run → fr.todo = .inRegion ops (Q ++ R) :: todo →
  ∃ μ' w' rtm', Steps P (lone fr cs w) (lone { fr with tmps := rtm', todo := .inRegion ops R :: todo } cs w') ∧ sj μ lo μ' ∧ yg E base w0 μ' h w' ∧
   di E μ' lo hi ops tm rtm' pend dn plan (X ++ Q) R
 | [], μ, w, fr, X, G, k, D, hQ, ha, hm, ht => by
  refine ⟨μ, w, fr.tmps, ?_, sj.refl _ _, k, by simpa using D⟩
  have : ({ fr with tmps := fr.tmps, todo := .inRegion ops R :: todo } : Frame) = fr := by
   cases fr; simp only at ht; subst ht; rfl
  rw [this]; exact Steps.refl _ _
 | q :: Q, μ, w, fr, X, G, k, D, hQ, ha, hm, ht => by
  have hqd := hQ q (List.mem_cons_self ..)
  have hqX : q ∉ X := by
   have := D.hlin.nodup
   intro h
   exact (List.nodup_append.1 this).2.2 q h q (by simp) rfl
  obtain ⟨μ1, w1, rtm1, hs1, e1, k1, D1⟩ := gan K Xt G k (fr := fr) (cs := cs) D hqd hlo hhi (allAgain_mem _ ha q (D.hpend q hqd hqX)) hm ht
  obtain ⟨μ2, w2, rtm2, hs2, e2, k2, D2⟩ := oW K Xt hlo hhi R Q (fr := { fr with tmps := rtm1, todo := .inRegion ops (Q ++ R) :: todo }) (G.mono e1.ext) k1 D1 (fun q hq => hQ q (List.mem_cons_of_mem _ hq)) ha hm rfl
  refine ⟨μ2, w2, rtm2, .head hs1 hs2, ⟨e1.ext.trans e2.ext, fun b hb h => e2.keep b hb (e1.keep b hb h)⟩, k2, by simpa using D2⟩
 where
 allAgain_mem {E : Env} {ops : List Oper} {tm : List V} {h : H} : ∀ (l : List Nat), ku E ops tm h l = true → ∀ q ∈ l, qC E ops tm h q = true
  | i :: l, ha, q, hq => by
   obtain ⟨h1, h2⟩ := vE ha
   rcases List.mem_cons.1 hq with rfl | hq
   ·exact h1
   ·exact allAgain_mem l h2 q hq
end
end Go.Ev
end
