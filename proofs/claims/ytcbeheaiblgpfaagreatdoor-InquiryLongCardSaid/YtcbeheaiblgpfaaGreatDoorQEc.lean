/- The law InquiryLong: part Ec. -/
import Derived.Laws.IdiomCopy
import Derived.Laws.Rows
import Derived.Below
import Derived.Calls
import Derived.Test.YtcbeheaiblgpfaaGreatDoorQEa
set_option linter.unusedVariables false
set_option linter.unusedSimpArgs false
noncomputable section
namespace Go.Ev
open Go.RowKit (Below)
structure Info where
 r : Nat
 sh : Nat
 ro : Bool
 size : Nat
 esz : Nat
 lax : Bool
 hl : lax = true → ro = true
abbrev Mu := Nat → Option Info
def Ext (μ μ' : Mu) : Prop := ∀ b i, μ b = some i → μ' b = some i
theorem Ext.refl (μ : Mu) : Ext μ μ := fun _ _ h => h
theorem Ext.trans {a b c : Mu} (h : Ext a b) (k : Ext b c) : Ext a c := fun x i hx => k x i (h x i hx)
def Mu.upd (μ : Mu) (b : Nat) (i : Info) : Mu := fun x => if x = b then some i else μ x
theorem Ext.upd {μ : Mu} {b : Nat} {i : Info} (h : μ b = none) : Ext μ (μ.upd b i) := by
 intro x j hx
 unfold Mu.upd
 split
 ·subst_vars; rw [h] at hx; cases hx
 ·exact hx
structure sj (μ : Mu) (n : Nat) (μ' : Mu) : Prop where
 ext : Ext μ μ'
 keep : ∀ b, b < n → μ b = none → μ' b = none
theorem sj.refl (μ : Mu) (n : Nat) : sj μ n μ := ⟨Ext.refl _, fun _ _ h => h⟩
theorem sj.upd {μ : Mu} {b : Nat} {i : Info} (h : μ b = none) : sj μ b (μ.upd b i) :=
 ⟨Ext.upd h, fun c hc h1 => by unfold Mu.upd; rw [if_neg (by omega)]; exact h1⟩
theorem sj.le {μ μ' : Mu} {n m : Nat} (h : sj μ n μ') (hm : m ≤ n) : sj μ m μ' := ⟨h.ext, fun b hb => h.keep b (by omega)⟩
theorem Mu.upd_same (μ : Mu) (b : Nat) (i : Info) : μ.upd b i b = some i := by simp [Mu.upd]
theorem Mu.uk (μ : Mu) {b x : Nat} (i : Info) (h : x ≠ b) : μ.upd b i x = μ x := by simp [Mu.upd, h]
inductive zF (μ : Mu) : Fn → Fn → Prop where
 | func (f : FuncId) : zF μ (.func f) (.func f)
 | via (t : TypeId) (p : Array FieldStep) (f : FuncId) (q : Bool) : zF μ (.via t p f q) (.via t p f q)
 | method (n : String) : zF μ (.method n) (.method n)
 | methodOf (t : TypeId) (n : String) : zF μ (.methodOf t n) (.methodOf t n)
 | yield (l : Nat) (i : Info) : μ l = some i → zF μ (.yield l) (.yield i.r)
def gB (s : ByteArray) : List Nat := s.data.toList.map UInt8.toNat
mutual
inductive ze (μ : Mu) : V → Value → Prop where
 | bool (b : Bool) : ze μ (.bool b) (.bool b)
 | int (k : IntKind) (n : Int) : ze μ (.int k n) (.int k n)
 | str (s : List Nat) (b : ByteArray) : gB b = s → ze μ (.str s) (.string b)
 | nilp : ze μ .nilp (.pointer none)
 | ptr (b o : Nat) (i : Info) : μ b = some i → ze μ (.ptr b o) (.pointer (some ⟨i.r, i.sh + o, none⟩))
 | nilsl : ze μ .nilsl (.slice none 0 0)
 | slE (b o n c : Nat) (i : Info) : μ b = some i → ze μ (.sl b o n (some c)) (.slice (some ⟨i.r, i.sh + o, none⟩) n c)
 | slU (b o n c : Nat) (i : Info) : μ b = some i → n ≤ c → (i.lax = true ∨ c * i.esz + (i.sh + o) = i.size) → ze μ (.sl b o n none) (.slice (some ⟨i.r, i.sh + o, none⟩) n c)
 | slZ (b o : Nat) (a : Addr) (i : Info) : μ b = some i → (i.lax = true ∨ i.size ≤ i.sh + o) → ze μ (.sl b o 0 none) (.slice (some a) 0 0)
 | nilmap : ze μ .nilmap (.map none)
 | map (r : Nat) (i : Info) : μ r = some i → ze μ (.map r) (.map (some i.r))
 | func (f g : Fn) (a b : List V) (a' b' : Array Value) : zF μ f g → ae μ a a'.toList → ae μ b b'.toList → ze μ (.func f a b) (.func g a' b')
 | nilfunc : ze μ .nilfunc .nilFunc
 | iface (t : Nat) (v : V) (v' : Value) : ze μ v v' → ze μ (.iface t v) (.iface t v')
 | nilif : ze μ .nilif .nilIface
 | agg (l : List V) (l' : Array Value) : ae μ l l'.toList → ze μ (.agg l) (.agg l')
 | tup (l : List V) (l' : Array Value) : ae μ l l'.toList → ze μ (.tup l) (.tuple l')
 | bad (v : Value) : v.oneCell' = true → ze μ .bad v
inductive ae (μ : Mu) : List V → List Value → Prop where
 | nil : ae μ [] []
 | cons (v : V) (v' : Value) (l : List V) (l' : List Value) : ze μ v v' → ae μ l l' → ae μ (v :: l) (v' :: l')
end
theorem zF.mono {μ μ' : Mu} (h : Ext μ μ') {f g : Fn} (k : zF μ f g) : zF μ' f g := by
 cases k with
 | yield l i hi => exact .yield l i (h _ _ hi)
 | _ => constructor
mutual
theorem ze.mono {μ μ' : Mu} (h : Ext μ μ') {v : V} {v' : Value} : ze μ v v' → ze μ' v v'
 | .bool b => .bool b
 | .int k n => .int k n
 | .str s b e => .str s b e
 | .nilp => .nilp
 | .ptr b o i hi => .ptr b o i (h _ _ hi)
 | .nilsl => .nilsl
 | .slE b o n c i hi => .slE b o n c i (h _ _ hi)
 | .slU b o n c i hi h1 h2 => .slU b o n c i (h _ _ hi) h1 h2
 | .slZ b o a i hi h1 => .slZ b o a i (h _ _ hi) h1
 | .nilmap => .nilmap
 | .map r i hi => .map r i (h _ _ hi)
 | .func f g a b a' b' hf ha hb => .func f g a b a' b' (hf.mono h) (ae.mono h ha) (ae.mono h hb)
 | .nilfunc => .nilfunc
 | .iface t v v' hv => .iface t v v' (ze.mono h hv)
 | .nilif => .nilif
 | .agg l l' hl => .agg l l' (ae.mono h hl)
 | .tup l l' hl => .tup l l' (ae.mono h hl)
 | .bad v h1 => .bad v h1
theorem ae.mono {μ μ' : Mu} (h : Ext μ μ') {l : List V} {l' : List Value} : ae μ l l' → ae μ' l l'
 | .nil => .nil
 | .cons v v' l l' hv hl => .cons v v' l l' (ze.mono h hv) (ae.mono h hl)
end
section lists
variable {μ : Mu}
theorem ae.length {l : List V} {l' : List Value} (h : ae μ l l') : l.length = l'.length := by
 induction l generalizing l' with
 | nil => cases h; rfl
 | cons v l ih => cases h with | cons _ _ _ _ _ hl => simp [ih hl]
theorem ae.get {l : List V} {l' : List Value} (h : ae μ l l') : ∀ (n : Nat) (v : V), bg l n = some v → ∃ v', l'[n]? = some v' ∧ ze μ v v' := by
 induction l generalizing l' with
 | nil => intro n v hv; cases n <;> simp [tJ, eu, yl] at hv
 | cons x l ih =>
  cases h with
  | cons _ y _ l' hx hl =>
   intro n v hv
   cases n with
   | zero => simp [tJ, eu, yl] at hv; subst hv; exact ⟨y, rfl, hx⟩
   | succ n => simpa using ih hl n v hv
theorem ae.drop {l : List V} {l' : List Value} (h : ae μ l l') (n : Nat) : ae μ (vI l n) (l'.drop n) := by
 induction n generalizing l l' with
 | zero => cases l <;> simpa [fH, kE, mE] using h
 | succ n ih => cases h with
  | nil => simpa [fH, kE, mE] using ae.nil
  | cons _ _ _ _ _ hl => simpa [fH, kE, mE] using ih hl
theorem ae.take {l : List V} {l' : List Value} (h : ae μ l l') : ∀ (n : Nat) (r : List V), yz l n = some r → ae μ r (l'.take n) ∧ r.length = n ∧ n ≤ l'.length := by
 induction l generalizing l' with
 | nil =>
  intro n r hr
  cases h
  cases n with
  | zero => simp [ky, xz, ny] at hr; subst hr; exact ⟨by simpa using ae.nil, rfl, Nat.zero_le _⟩
  | succ n => simp [ky, xz, ny] at hr
 | cons x l ih =>
  cases h with
  | cons _ y _ l' hx hl =>
   intro n r hr
   cases n with
   | zero => simp [ky, xz, ny] at hr; subst hr; exact ⟨by simpa using ae.nil, rfl, Nat.zero_le _⟩
   | succ n =>
    simp only [ky, xz, ny] at hr
    split at hr
    ·rename_i r' hr'
     cases hr
     obtain ⟨h1, h2, h3⟩ := ih hl n r' hr'
     exact ⟨by simpa using ae.cons _ _ _ _ hx h1, by simp [h2], by simp; omega⟩
    ·cases hr
theorem ae.append {l m : List V} {l' m' : List Value} (h : ae μ l l') (k : ae μ m m') : ae μ (gy l m) (l' ++ m') := by
 induction l generalizing l' with
 | nil => cases h; simpa [vJ, vK] using k
 | cons x l ih => cases h with | cons _ _ _ _ hx hl => simpa [vJ, vK] using ae.cons _ _ _ _ hx (ih hl)
theorem ae.cells {v : V} {v' : Value} (h : ze μ v v') : ae μ v.cells v'.cells.toList := by
 cases h with
 | agg l l' hl => simpa [V.cells, Value.cells] using hl
 | bad _ h1 => cases v' <;> first | (simp [Value.oneCell'] at h1; done) | exact ae.cons _ _ _ _ (.bad _ h1) .nil
 | _ => simp only [V.cells, Value.cells]; exact ae.cons _ _ _ _ (by constructor <;> assumption) .nil
end lists
theorem ze.one {μ : Mu} {v : V} {v' : Value} (h : ze μ v v') (h1 : aD v = true) : v'.oneCell' = true := by
 cases h <;> first | rfl | (simp [aD] at h1; done) | assumption
mutual
theorem ze.const (μ : Mu) : ∀ v : Value, ze μ (toV v) v
 | .bool b => .bool b
 | .int k n => .int k n
 | .string s => .str _ s rfl
 | .pointer none => .nilp
 | .pointer (some a) => .bad _ rfl
 | .slice none 0 0 => .nilsl
 | .slice none 0 (n + 1) => .bad _ rfl
 | .slice none (n + 1) m => .bad _ rfl
 | .slice (some a) n m => .bad _ rfl
 | .map none => .nilmap
 | .map (some r) => .bad _ rfl
 | .chan r => .bad _ rfl
 | .float k n => .bad _ rfl
 | .complex k a b => .bad _ rfl
 | .func (.func f) a b => .func _ _ _ _ _ _ (.func f) (ae.gG μ a) (ae.gG μ b)
 | .func (.method f) a b => .func _ _ _ _ _ _ (.method f) (ae.gG μ a) (ae.gG μ b)
 | .func (.methodOf t f) a b => .func _ _ _ _ _ _ (.methodOf t f) (ae.gG μ a) (ae.gG μ b)
 | .func (.via t p f q) a b => .func _ _ _ _ _ _ (.via t p f q) (ae.gG μ a) (ae.gG μ b)
 | .func (.yield l) a b => .bad _ rfl
 | .nilFunc => .nilfunc
 | .iface t v => .iface t _ _ (ze.const μ v)
 | .nilIface => .nilif
 | .agg cs => .agg _ _ (ae.gG μ cs)
 | .tuple vs => .tup _ _ (ae.gG μ vs)
theorem ae.gG (μ : Mu) : ∀ v : Array Value, ae μ (bW v) v.toList
 | ⟨l⟩ => ae.sas μ l
theorem ae.sas (μ : Mu) : ∀ v : List Value, ae μ (raI v) v
 | [] => .nil
 | v :: l => .cons _ _ _ _ (ze.const μ v) (ae.sas μ l)
end
theorem zg {α : Type} (l : List α) (n : Nat) : bg l n = l[n]? := by
 induction l generalizing n with
 | nil => simp [tJ, eu, yl]
 | cons x l ih => cases n <;> simp [tJ, eu, yl, ih]
theorem jV {α : Type} (l : List α) (n : Nat) (v : α) : zz l n v = l.set n v := by
 induction l generalizing n with
 | nil => simp [eX, qR, rR]
 | cons x l ih => cases n <;> simp [eX, qR, rR, ih]
theorem ll {α : Type} (l : List α) (n : Nat) : av l n = l.length + n := by
 induction l generalizing n with
 | nil => simp [dP, tK]
 | cons x l ih => simp [dP, tK, ih]; omega
theorem gH {α : Type} (l : List α) (n : Nat) : vI l n = l.drop n := by
 induction n generalizing l with
 | zero => cases l <;> simp [fH, kE, mE]
 | succ n ih => cases l <;> simp [fH, kE, mE, ih]
theorem pz {α : Type} (l m : List α) : gy l m = l ++ m := by
 induction l with
 | nil => simp [vJ, vK]
 | cons x l ih => simp [vJ, vK, ih]
theorem yA {α : Type} (l : List α) (x : α) : snoc l x = l ++ [x] := by
 induction l with
 | nil => simp [snoc]
 | cons y l ih => simp [snoc, ih]
theorem xx {α : Type} (l : List α) (n : Nat) : yz l n = if n ≤ l.length then some (l.take n) else none := by
 induction l generalizing n with
 | nil => cases n <;> simp [ky, xz, ny]
 | cons x l ih => cases n with
  | zero => simp [ky, xz, ny]
  | succ n => simp only [ky, xz, ny, ih]; by_cases h : n ≤ l.length <;> simp [h]
theorem sJ {α : Type} : ∀ (l : List α) (n : Nat) (ys : List α), gz l n ys = if ys = [] then some l else if n + ys.length ≤ l.length then some (l.take n ++ ys ++ l.drop (n + ys.length)) else none
 | [], n, [] => by simp [uy, rD, qy, aA]
 | [], n, y :: ys => by simp [uy, rD, qy, aA]
 | x :: l, n, [] => by simp [uy, rD, qy, aA]
 | x :: l, 0, [y] => by simp [uy, rD, qy, aA, sJ l 0 []]
 | x :: l, 0, y :: z :: ys => by
  simp only [uy, rD, qy, aA, sJ l 0 (z :: ys)]
  by_cases h : ys.length + 1 ≤ l.length <;> simp [h]
 | x :: l, n + 1, y :: ys => by
  simp only [uy, rD, qy, aA, sJ l n (y :: ys)]
  by_cases h : n + (ys.length + 1) ≤ l.length
  ·simp [h, show n + 1 + (ys.length + 1) ≤ l.length + 1 from by omega, show n + 1 + (ys.length + 1) = (n + (ys.length + 1)) + 1 from by omega]
  ·simp [h, show ¬ (n + 1 + (ys.length + 1) ≤ l.length + 1) from by omega]
theorem kV {α : Type} (z : List α) : ∀ (n : Nat) (acc : List α), rJ n z acc = (List.replicate n z).flatten ++ acc
 | 0, acc => by simp [dH, eH]
 | n + 1, acc => by rw [eH, kV z n, pz, List.replicate_succ']; simp
theorem dO (a b : List Nat) : cu a b = decide (a = b) := by
 induction a generalizing b with
 | nil => cases b <;> simp [vQ, wD, xD, qM]
 | cons x a ih => cases b with
  | nil => simp [vQ, wD, xD, qM]
  | cons y b =>
   simp only [vQ, wD, xD, qM, ih]
   by_cases h : x = y <;> simp [h, Nat.beq_eq]
theorem fq (x y : Nat) : Nat.beq x y = decide (x = y) := by
 rw [Bool.eq_iff_iff, decide_eq_true_eq]
 exact ⟨Nat.eq_of_beq_eq_true, fun h => h ▸ Nat.beq_refl x⟩
theorem bu (x y : Nat) : Nat.ble x y = decide (x ≤ y) := by
 rw [Bool.eq_iff_iff, decide_eq_true_eq]
 exact ⟨Nat.le_of_ble_eq_true, Nat.ble_eq_true_of_le⟩
theorem au (x y : Nat) : Nat.blt x y = decide (x < y) := bu (x + 1) y
theorem dD (a b : Int) : ieq a b = decide (a = b) := by
 cases a <;> cases b <;> simp only [ieq, fq] <;> rw [Bool.eq_iff_iff] <;> simp <;> omega
theorem xJ (a b : Int) : ilt a b = decide (a < b) := by
 cases a <;> cases b <;> simp only [ilt, au] <;> rw [Bool.eq_iff_iff] <;> simp <;> omega
theorem qX (a b : IntKind) : keq a b = decide (a = b) := by cases a <;> cases b <;> rfl
theorem Tr.cB {α : Type} (f : Nat) : ∀ (t : Tr α) (n : Nat) (a : α) (m : Nat), n < f → (Tr.set f t n a).get m = if m = n then some a else t.get m := by
 induction f with
 | zero => intro t n a m h; omega
 | succ f ih =>
  have hb := fq
  intro t n a m h
  cases t with
  | leaf =>
   simp only [Tr.set, hb]
   by_cases h0 : n = 0
   ·subst h0; simp only [decide_true, cond_true, Tr.ax, Tr.tC, hb]
    by_cases hm : m = 0 <;> simp [hm, Tr.ax, Tr.tC]
   ·by_cases h1 : n % 2 = 1
    ·simp only [h0, h1, decide_false, cond_false, decide_true, cond_true, Tr.ax, Tr.tC, hb]
     by_cases hm : m = 0
     ·subst hm; simp [Ne.symm h0]
     ·by_cases hm1 : m % 2 = 1
      ·simp only [hm, hm1, decide_false, cond_false, decide_true, cond_true, ih _ _ _ _ (show n / 2 < f by omega), Tr.ax]
       by_cases he : m = n
       ·simp [he]
       ·rw [if_neg he, if_neg (by omega)]
      ·simp only [hm, hm1, decide_false, cond_false, Tr.ax]
       rw [if_neg (by intro he; subst he; exact hm1 h1)]
    ·simp only [h0, h1, decide_false, cond_false, Tr.ax, Tr.tC, hb]
     by_cases hm : m = 0
     ·subst hm; simp [Ne.symm h0]
     ·by_cases hm1 : m % 2 = 1
      ·simp only [hm, hm1, decide_false, cond_false, decide_true, cond_true, Tr.ax]
       rw [if_neg (by intro he; subst he; exact h1 hm1)]
      ·simp only [hm, hm1, decide_false, cond_false, ih _ _ _ _ (show n / 2 - 1 < f by omega), Tr.ax]
       by_cases he : m = n
       ·simp [he]
       ·rw [if_neg he, if_neg (by omega)]
  | node v l r =>
   simp only [Tr.set, hb]
   by_cases h0 : n = 0
   ·subst h0; simp only [decide_true, cond_true, Tr.ax, Tr.tC, hb]
    by_cases hm : m = 0 <;> simp [hm]
   ·by_cases h1 : n % 2 = 1
    ·simp only [h0, h1, decide_false, cond_false, decide_true, cond_true, Tr.ax, Tr.tC, hb]
     by_cases hm : m = 0
     ·subst hm; simp [Ne.symm h0]
     ·by_cases hm1 : m % 2 = 1
      ·simp only [hm, hm1, decide_false, cond_false, decide_true, cond_true, ih _ _ _ _ (show n / 2 < f by omega)]
       by_cases he : m = n
       ·simp [he]
       ·rw [if_neg he, if_neg (by omega)]
      ·simp only [hm, hm1, decide_false, cond_false]
       rw [if_neg (by intro he; subst he; exact hm1 h1)]
    ·simp only [h0, h1, decide_false, cond_false, Tr.ax, Tr.tC, hb]
     by_cases hm : m = 0
     ·subst hm; simp [Ne.symm h0]
     ·by_cases hm1 : m % 2 = 1
      ·simp only [hm, hm1, decide_false, cond_false, decide_true, cond_true]
       rw [if_neg (by intro he; subst he; exact h1 hm1)]
      ·simp only [hm, hm1, decide_false, cond_false, ih _ _ _ _ (show n / 2 - 1 < f by omega)]
       by_cases he : m = n
       ·simp [he]
       ·rw [if_neg he, if_neg (by omega)]
end Go.Ev
end
noncomputable section
namespace Go.Ev
open Go.RowKit (Below)
def cay (sh n flo fhi : Nat) (mk : Bool) (lo hi : Nat) : Prop :=
 (∀ j, j < n → ((lo ≤ sh + j ∧ sh + j < hi) ↔ (flo ≤ j ∧ j < fhi))) ∧ (mk = false → (flo = fhi → lo = hi) ∧ (flo ≠ fhi → lo = sh + flo ∧ hi = sh + fhi))
inductive jm (μ : Mu) : List (V × V × Nat) → List MapEntry → Prop where
 | nil : jm μ [] []
 | cons (k v : V) (b : Nat) (e : MapEntry) (l : List (V × V × Nat)) (l' : List MapEntry) : ze μ k e.key → ze μ v e.val → e.born = b → jm μ l l' → jm μ ((k, v, b) :: l) (e :: l')
inductive mZ (μ : Mu) : Dd → Deferred → Prop where
 | call (f g : Fn) (c a : List V) (c' a' : Array Value) : zF μ f g → ae μ c c'.toList → ae μ a a'.toList → mZ μ (.call f c a) { target := .fn g c', args := a' }
 | mark (r : Nat) (i : Info) (a' : Array Value) : μ r = some i → mZ μ (.mark r) { target := .collected i.r, args := a' }
inductive zI (μ : Mu) : List Dd → List Deferred → Prop where
 | nil : zI μ [] []
 | cons (d : Dd) (d' : Deferred) (l : List Dd) (l' : List Deferred) : mZ μ d d' → zI μ l l' → zI μ (d :: l) (d' :: l')
structure lZ (μ : Mu) (l : Lp) (l' : Loop) : Prop where
 state : l.state = l'.state
 pending : l.pending = l'.pending
 fn : l.fn = l'.fn
 tmps : ae μ l.tmps l'.tmps.toList
 params : l.params = l'.params.toList
 assign : l.assign = l'.assign
 body : l.body = l'.body
 defers : ∃ i, μ l.defers = some i ∧ i.r = l'.defers
inductive su (E : Env) (μ : Mu) (i : Info) : Ob → Obj → Prop where
 | cells (xs : List V) (e : Nat) (opn ro : Bool) (flo fhi : Nat) (mk : Bool) (cs : Array Value) (lo hi : Nat) :
   cs.size = i.size → i.ro = ro → (∀ t, E.ty.get e = some t → t.size = i.esz) → i.sh + xs.length ≤ cs.size → ae μ xs ((cs.toList.drop i.sh).take xs.length) →
   (opn = false → i.sh = 0 ∧ xs.length = cs.size) → (ro = false → cay i.sh xs.length flo fhi mk lo hi) →
   su E μ i (.cells xs e opn ro flo fhi mk) (.cells cs e (lo, hi))
 | dead (o : Obj) : su E μ i .dead o
 | map (es : List (V × V × Nat)) (c : Nat) (ro : Bool) (es' : Array MapEntry) : i.sh = 0 → i.ro = ro → jm μ es es'.toList → su E μ i (.map es c ro) (.map es' c)
 | mapIter0 (since : Nat) (seen : List Nat) (stepped : Nat) : i.sh = 0 → i.ro = false → su E μ i (.mapIter none since seen stepped) (.mapIter none since seen.toArray stepped)
 | mapIter (m : Nat) (im : Info) (since : Nat) (seen : List Nat) (stepped : Nat) : i.sh = 0 → i.ro = false → μ m = some im → su E μ i (.mapIter (some m) since seen stepped) (.mapIter (some im.r) since seen.toArray stepped)
 | strIter (s : List Nat) (pos : Nat) (b : ByteArray) : i.sh = 0 → i.ro = false → gB b = s → su E μ i (.strIter s pos) (.stringIter b pos)
 | loop (l : Lp) (l' : Loop) : i.sh = 0 → i.ro = false → lZ μ l l' → su E μ i (.loop l) (.loop l')
 | defs (ds : List Dd) (ds' : List Deferred) : i.sh = 0 → i.ro = false → zI μ ds ds' → su E μ i (.deferred (some ds)) (.deferred (some ds'))
 | defs0 : i.sh = 0 → i.ro = false → su E μ i (.deferred none) (.deferred none)
theorem jm.mono {μ μ' : Mu} (h : Ext μ μ') {l : List (V × V × Nat)} {l' : List MapEntry} : jm μ l l' → jm μ' l l'
 | .nil => .nil
 | .cons k v b e l l' hk hv hb hl => .cons k v b e l l' (hk.mono h) (hv.mono h) hb (jm.mono h hl)
theorem mZ.mono {μ μ' : Mu} (h : Ext μ μ') {d : Dd} {d' : Deferred} : mZ μ d d' → mZ μ' d d'
 | .call f g c a c' a' hf hc ha => .call f g c a c' a' (hf.mono h) (hc.mono h) (ha.mono h)
 | .mark r i a' hi => .mark r i a' (h _ _ hi)
theorem zI.mono {μ μ' : Mu} (h : Ext μ μ') {l : List Dd} {l' : List Deferred} : zI μ l l' → zI μ' l l'
 | .nil => .nil
 | .cons d d' l l' hd hl => .cons d d' l l' (hd.mono h) (zI.mono h hl)
theorem lZ.mono {μ μ' : Mu} (h : Ext μ μ') {l : Lp} {l' : Loop} (k : lZ μ l l') : lZ μ' l l' :=
 ⟨k.state, k.pending, k.fn, k.tmps.mono h, k.params, k.assign, k.body, let ⟨i, h1, h2⟩ := k.defers; ⟨i, h _ _ h1, h2⟩⟩
theorem su.mono {E : Env} {μ μ' : Mu} (h : Ext μ μ') {i : Info} {o : Ob} {o' : Obj} (k : su E μ i o o') : su E μ' i o o' := by
 cases k with
 | cells xs e opn ro flo fhi mk cs lo hi h1 h2 h3 h4 h5 h6 h7 => exact .cells xs e opn ro flo fhi mk cs lo hi h1 h2 h3 h4 (h5.mono h) h6 h7
 | dead => exact .dead _
 | map es c ro es' h1 h2 h3 => exact .map es c ro es' h1 h2 (h3.mono h)
 | mapIter0 a b c h1 h2 => exact .mapIter0 a b c h1 h2
 | mapIter m im a b c h1 h2 h3 => exact .mapIter m im a b c h1 h2 (h _ _ h3)
 | strIter s p b h1 h2 h3 => exact .strIter s p b h1 h2 h3
 | loop l l' h1 h2 h3 => exact .loop l l' h1 h2 (h3.mono h)
 | defs a b h1 h2 h3 => exact .defs a b h1 h2 (h3.mono h)
 | defs0 h1 h2 => exact .defs0 h1 h2
structure yg (E : Env) (base : Nat) (w0 : World) (μ : Mu) (h : H) (w : World) : Prop where
 ob : ∀ b i o, μ b = some i → h.get b = some o → ∃ o', w.heap[i.r]? = some o' ∧ su E μ i o o'
 inj : ∀ b b' i i' o o', b ≠ b' → μ b = some i → μ b' = some i' → h.get b = some o → h.get b' = some o' → o ≠ .dead → o' ≠ .dead → i.ro = false → i.r ≠ i'.r
 own : ∀ b i, μ b = some i → i.ro = false → base ≤ i.r
 lt : ∀ b i, μ b = some i → i.r < w.heap.size
 nxt : ∀ b, h.next ≤ b → h.get b = none ∧ μ b = none
 below : Below base w0 w
 big : base ≤ w.heap.size
theorem L1.cB (t : L1) (x : Option Ob) (n m : Nat) (hn : n < 8) (hm : m < 8) : (t.set x n).get m = if m = n then x else t.get m := by
 have h : n = 0 ∨ n = 1 ∨ n = 2 ∨ n = 3 ∨ n = 4 ∨ n = 5 ∨ n = 6 ∨ n = 7 := by omega
 have k : m = 0 ∨ m = 1 ∨ m = 2 ∨ m = 3 ∨ m = 4 ∨ m = 5 ∨ m = 6 ∨ m = 7 := by omega
 rcases h with rfl | rfl | rfl | rfl | rfl | rfl | rfl | rfl <;> rcases k with rfl | rfl | rfl | rfl | rfl | rfl | rfl | rfl <;> rfl
theorem L2.cB (t : L2) (x : L1) (n m : Nat) (hn : n < 8) (hm : m < 8) : (t.set x n).get m = if m = n then x else t.get m := by
 have h : n = 0 ∨ n = 1 ∨ n = 2 ∨ n = 3 ∨ n = 4 ∨ n = 5 ∨ n = 6 ∨ n = 7 := by omega
 have k : m = 0 ∨ m = 1 ∨ m = 2 ∨ m = 3 ∨ m = 4 ∨ m = 5 ∨ m = 6 ∨ m = 7 := by omega
 rcases h with rfl | rfl | rfl | rfl | rfl | rfl | rfl | rfl <;> rcases k with rfl | rfl | rfl | rfl | rfl | rfl | rfl | rfl <;> rfl
theorem L3.cB (t : L3) (x : L2) (n m : Nat) (hn : n < 8) (hm : m < 8) : (t.set x n).get m = if m = n then x else t.get m := by
 have h : n = 0 ∨ n = 1 ∨ n = 2 ∨ n = 3 ∨ n = 4 ∨ n = 5 ∨ n = 6 ∨ n = 7 := by omega
 have k : m = 0 ∨ m = 1 ∨ m = 2 ∨ m = 3 ∨ m = 4 ∨ m = 5 ∨ m = 6 ∨ m = 7 := by omega
 rcases h with rfl | rfl | rfl | rfl | rfl | rfl | rfl | rfl <;> rcases k with rfl | rfl | rfl | rfl | rfl | rfl | rfl | rfl <;> rfl
theorem L4.cB (t : L4) (x : L3) (n m : Nat) (hn : n < 8) (hm : m < 8) : (t.set x n).get m = if m = n then x else t.get m := by
 have h : n = 0 ∨ n = 1 ∨ n = 2 ∨ n = 3 ∨ n = 4 ∨ n = 5 ∨ n = 6 ∨ n = 7 := by omega
 have k : m = 0 ∨ m = 1 ∨ m = 2 ∨ m = 3 ∨ m = 4 ∨ m = 5 ∨ m = 6 ∨ m = 7 := by omega
 rcases h with rfl | rfl | rfl | rfl | rfl | rfl | rfl | rfl <;> rcases k with rfl | rfl | rfl | rfl | rfl | rfl | rfl | rfl <;> rfl
theorem L5.cB (t : L5) (x : L4) (n m : Nat) (hn : n < 8) (hm : m < 8) : (t.set x n).get m = if m = n then x else t.get m := by
 have h : n = 0 ∨ n = 1 ∨ n = 2 ∨ n = 3 ∨ n = 4 ∨ n = 5 ∨ n = 6 ∨ n = 7 := by omega
 have k : m = 0 ∨ m = 1 ∨ m = 2 ∨ m = 3 ∨ m = 4 ∨ m = 5 ∨ m = 6 ∨ m = 7 := by omega
 rcases h with rfl | rfl | rfl | rfl | rfl | rfl | rfl | rfl <;> rcases k with rfl | rfl | rfl | rfl | rfl | rfl | rfl | rfl <;> rfl
theorem H.get_put (h : H) (b : Nat) (o : Ob) (c : Nat) : (h.put b o).get c = if c = b then some o else h.get c := by
 unfold H.put
 by_cases hb : b < 32768
 ·rw [au, decide_eq_true hb, cond_true, cond_true]
  rw [H.get_eq, H.get_eq]
  by_cases hc : c < 32768
  ·rw [au, decide_eq_true hc, cond_true, cond_true]
   simp only [L5.put_eq]
   rw [L5.cB _ _ _ _ (by omega) (by omega)]
   split
   ·rw [L4.cB _ _ _ _ (by omega) (by omega)]
    split
    ·rw [L3.cB _ _ _ _ (by omega) (by omega)]
     split
     ·rw [L2.cB _ _ _ _ (by omega) (by omega)]
      split
      ·rw [L1.cB _ _ _ _ (by omega) (by omega)]
       split
       ·rw [if_pos (by omega)]
       ·rw [if_neg (by omega)]; simp only [*]
      ·rw [if_neg (by omega)]; simp only [*]
     ·rw [if_neg (by omega)]; simp only [*]
    ·rw [if_neg (by omega)]; simp only [*]
   ·rw [if_neg (by omega)]
  ·rw [au, decide_eq_false hc, cond_false, cond_false, if_neg (by omega)]
 ·rw [au, decide_eq_false hb, cond_false, cond_false]
  rw [H.get_eq, H.get_eq]
  by_cases hc : c < 32768
  ·rw [au, decide_eq_true hc, cond_true, cond_true, if_neg (by omega)]
  ·rw [au, decide_eq_false hc, cond_false, cond_false, Tr.cB _ _ _ _ _ (Nat.lt_succ_self _)]
   by_cases he : c = b
   ·rw [if_pos he, if_pos (by omega)]
   ·rw [if_neg he, if_neg (by omega)]
theorem H.qaJ (h : H) (o : Ob) (c : Nat) : (h.new o).get c = (h.put h.next o).get c := by
 simp only [H.get, H.new]
theorem H.wu (h : H) (o : Ob) (c : Nat) : (h.new o).get c = if c = h.next then some o else h.get c := by
 rw [H.qaJ, H.get_put]
theorem H.iE (h : H) (b : Nat) (o : Ob) : (h.put b o).next = h.next := by
 rfl
theorem H.fu (h : H) (o : Ob) : (h.new o).next = h.next + 1 := rfl
section
variable {E : Env} {base : Nat} {w0 : World} {μ : Mu} {h : H} {w : World}
theorem yg.drew (k : yg E base w0 μ h w) : yg E base w0 μ h { w with drawn := w.drawn + 1 } :=
 ⟨k.ob, k.inj, k.own, k.lt, k.nxt, ⟨k.below.os, k.below.tape, k.below.output, k.below.size, k.below.block⟩, k.big⟩
theorem yg.alloc (k : yg E base w0 μ h w) (o : Ob) (o' : Obj) (i : Info) (hr : i.r = w.heap.size) (hob : su E (μ.upd h.next i) i o o') (hro : i.ro = false) :
  yg E base w0 (μ.upd h.next i) (h.new o) (w.alloc o') := by
 have hn := k.nxt h.next (Nat.le_refl _)
 have hext : Ext μ (μ.upd h.next i) := Ext.upd hn.2
 have hsz : (w.alloc o').heap.size = w.heap.size + 1 := by show (w.heap.push o').size = _; simp
 have hold : ∀ r, r < w.heap.size → (w.alloc o').heap[r]? = w.heap[r]? := fun r hr => Below.heap_alloc w o' r hr
 refine ⟨?_, ?_, ?_, ?_, ?_, ?_, ?_⟩
 ·intro b j p hb hp
  rw [H.wu] at hp
  by_cases hbn : b = h.next
  ·subst hbn
   rw [if_pos rfl] at hp; cases hp
   rw [Mu.upd_same] at hb; cases hb
   exact ⟨o', by rw [hr]; show (w.heap.push o')[w.heap.size]? = _; simp, hob⟩
  ·rw [if_neg hbn] at hp
   rw [Mu.uk _ _ hbn] at hb
   obtain ⟨q, hq, hrel⟩ := k.ob b j p hb hp
   exact ⟨q, by rw [hold _ (k.lt b j hb)]; exact hq, hrel.mono hext⟩
 ·intro b b' j j' p p' hne hb hb' hp hp' hd hd' hj
  rw [H.wu] at hp hp'
  by_cases hbn : b = h.next
  ·subst hbn
   rw [Mu.upd_same] at hb; cases hb
   rw [Mu.uk _ _ (Ne.symm hne)] at hb'
   have := k.lt b' j' hb'
   omega
  ·rw [if_neg hbn] at hp
   rw [Mu.uk _ _ hbn] at hb
   by_cases hbn' : b' = h.next
   ·subst hbn'
    rw [Mu.upd_same] at hb'; cases hb'
    have := k.lt b j hb
    omega
   ·rw [if_neg hbn'] at hp'
    rw [Mu.uk _ _ hbn'] at hb'
    exact k.inj b b' j j' p p' hne hb hb' hp hp' hd hd' hj
 ·intro b j hb hj
  by_cases hbn : b = h.next
  ·subst hbn; rw [Mu.upd_same] at hb; cases hb; rw [hr]; exact k.big
  ·rw [Mu.uk _ _ hbn] at hb; exact k.own b j hb hj
 ·intro b j hb
  rw [hsz]
  by_cases hbn : b = h.next
  ·subst hbn; rw [Mu.upd_same] at hb; cases hb; omega
  ·rw [Mu.uk _ _ hbn] at hb; have := k.lt b j hb; omega
 ·intro b hb
  rw [H.fu] at hb
  have := k.nxt b (by omega)
  exact ⟨by rw [H.wu, if_neg (by omega)]; exact this.1, by rw [Mu.uk _ _ (by omega)]; exact this.2⟩
 ·exact k.below.alloc k.big o'
 ·rw [hsz]; have := k.big; omega
theorem yg.early (k : yg E base w0 μ h w) (o : Ob) : yg E base w0 μ (h.new o) w := by
 have hn := k.nxt h.next (Nat.le_refl _)
 refine ⟨?_, ?_, k.own, k.lt, ?_, k.below, k.big⟩
 ·intro b j p hb hp
  rw [H.wu] at hp
  by_cases hbn : b = h.next
  ·subst hbn; rw [hn.2] at hb; cases hb
  ·rw [if_neg hbn] at hp; exact k.ob b j p hb hp
 ·intro b b' j j' p p' hne hb hb' hp hp' hd hd' hj
  rw [H.wu] at hp hp'
  by_cases hbn : b = h.next
  ·subst hbn; rw [hn.2] at hb; cases hb
  ·by_cases hbn' : b' = h.next
   ·subst hbn'; rw [hn.2] at hb'; cases hb'
   ·rw [if_neg hbn] at hp; rw [if_neg hbn'] at hp'
    exact k.inj b b' j j' p p' hne hb hb' hp hp' hd hd' hj
 ·intro b hb
  rw [H.fu] at hb
  have := k.nxt b (by omega)
  exact ⟨by rw [H.wu, if_neg (by omega)]; exact this.1, this.2⟩
theorem yg.late (k : yg E base w0 μ h w) (b : Nat) (o : Ob) (o' : Obj) (i : Info) (hb : μ b = none) (hlt : b < h.next) (hg : h.get b = some o) (hr : i.r = w.heap.size)
  (hob : su E (μ.upd b i) i o o') (hro : i.ro = false) : yg E base w0 (μ.upd b i) h (w.alloc o') := by
 have hext : Ext μ (μ.upd b i) := Ext.upd hb
 have hsz : (w.alloc o').heap.size = w.heap.size + 1 := by show (w.heap.push o').size = _; simp
 have hold : ∀ r, r < w.heap.size → (w.alloc o').heap[r]? = w.heap[r]? := fun r hr => Below.heap_alloc w o' r hr
 refine ⟨?_, ?_, ?_, ?_, ?_, ?_, ?_⟩
 ·intro c j p hc hp
  by_cases hbn : c = b
  ·subst hbn
   rw [hg] at hp; cases hp
   rw [Mu.upd_same] at hc; cases hc
   exact ⟨o', by rw [hr]; show (w.heap.push o')[w.heap.size]? = _; simp, hob⟩
  ·rw [Mu.uk _ _ hbn] at hc
   obtain ⟨q, hq, hrel⟩ := k.ob c j p hc hp
   exact ⟨q, by rw [hold _ (k.lt c j hc)]; exact hq, hrel.mono hext⟩
 ·intro c c' j j' p p' hne hc hc' hp hp' hd hd' hj
  by_cases hbn : c = b
  ·subst hbn
   rw [Mu.upd_same] at hc; cases hc
   rw [Mu.uk _ _ (Ne.symm hne)] at hc'
   have := k.lt c' j' hc'
   omega
  ·rw [Mu.uk _ _ hbn] at hc
   by_cases hbn' : c' = b
   ·subst hbn'
    rw [Mu.upd_same] at hc'; cases hc'
    have := k.lt c j hc
    omega
   ·rw [Mu.uk _ _ hbn'] at hc'
    exact k.inj c c' j j' p p' hne hc hc' hp hp' hd hd' hj
 ·intro c j hc hj
  by_cases hbn : c = b
  ·subst hbn; rw [Mu.upd_same] at hc; cases hc; rw [hr]; exact k.big
  ·rw [Mu.uk _ _ hbn] at hc; exact k.own c j hc hj
 ·intro c j hc
  rw [hsz]
  by_cases hbn : c = b
  ·subst hbn; rw [Mu.upd_same] at hc; cases hc; omega
  ·rw [Mu.uk _ _ hbn] at hc; have := k.lt c j hc; omega
 ·intro c hc
  have := k.nxt c hc
  exact ⟨this.1, by rw [Mu.uk _ _ (by omega)]; exact this.2⟩
 ·exact k.below.alloc k.big o'
 ·rw [hsz]; have := k.big; omega
theorem yg.turn (k : yg E base w0 μ h w) (b : Nat) (i : Info) (o p : Ob) (p' : Obj) (w' : World) (hb : μ b = some i) (hro : i.ro = false) (hg : h.get b = some o) (hd : o ≠ .dead)
  (hw : ∀ r, r ≠ i.r → w'.heap[r]? = w.heap[r]?) (hp : w'.heap[i.r]? = some p') (hob : su E μ i p p') (hsz : w'.heap.size = w.heap.size)
  (hos : w'.os = w.os ∧ w'.tape = w.tape ∧ w'.output = w.output) : yg E base w0 μ (h.put b p) w' := by
 have hbn : b < h.next := Nat.lt_of_not_le fun hle => by have := (k.nxt b hle).2; rw [hb] at this; cases this
 refine ⟨?_, ?_, k.own, fun c j hc => by rw [hsz]; exact k.lt c j hc, ?_, ?_, by rw [hsz]; exact k.big⟩
 ·intro c j q hc hq
  rw [H.get_put] at hq
  by_cases hcb : c = b
  ·subst hcb
   rw [if_pos rfl] at hq; cases hq
   rw [hb] at hc; cases hc
   exact ⟨p', hp, hob⟩
  ·rw [if_neg hcb] at hq
   obtain ⟨q', hq', hrel⟩ := k.ob c j q hc hq
   by_cases hdq : q = .dead
   ·subst hdq
    by_cases he : j.r = i.r
    ·exact ⟨p', by rw [he]; exact hp, .dead _⟩
    ·exact ⟨q', by rw [hw _ he]; exact hq', hrel⟩
   ·exact ⟨q', by rw [hw _ (Ne.symm (k.inj b c i j o q (Ne.symm hcb) hb hc hg hq hd hdq hro))]; exact hq', hrel⟩
 ·intro c c' j j' q q' hne hc hc' hq hq' hdq hdq' hj
  rw [H.get_put] at hq hq'
  by_cases hcb : c = b
  ·subst hcb
   rw [hb] at hc; cases hc
   rw [if_neg (Ne.symm hne)] at hq'
   exact k.inj c c' i j' o q' hne hb hc' hg hq' hd hdq' hro
  ·rw [if_neg hcb] at hq
   by_cases hcb' : c' = b
   ·subst hcb'
    rw [hb] at hc'; cases hc'
    exact k.inj c c' j i q o hne hc hb hq hg hdq hd hj
   ·rw [if_neg hcb'] at hq'
    exact k.inj c c' j j' q q' hne hc hc' hq hq' hdq hdq' hj
 ·intro c hc
  rw [H.iE] at hc
  have := k.nxt c hc
  exact ⟨by rw [H.get_put, if_neg (by omega)]; exact this.1, this.2⟩
 ·refine ⟨hos.1.trans k.below.os, hos.2.1.trans k.below.tape, hos.2.2.trans k.below.output, by rw [hsz]; exact k.below.size, fun r hr => ?_⟩
  have := k.own b i hb hro
  rw [hw r (by omega)]
  exact k.below.block r hr
theorem yg.kill (k : yg E base w0 μ h w) (b : Nat) (hlt : b < h.next) : yg E base w0 μ (h.put b .dead) w := by
 refine ⟨?_, ?_, k.own, k.lt, ?_, k.below, k.big⟩
 ·intro c j q hc hq
  rw [H.get_put] at hq
  by_cases hcb : c = b
  ·rw [if_pos hcb] at hq; cases hq
   have := k.lt c j hc
   exact ⟨w.heap[j.r], by simp [this], .dead _⟩
  ·rw [if_neg hcb] at hq; exact k.ob c j q hc hq
 ·intro c c' j j' q q' hne hc hc' hq hq' hdq hdq' hj
  rw [H.get_put] at hq hq'
  by_cases hcb : c = b
  ·rw [if_pos hcb] at hq; cases hq; exact absurd rfl hdq
  ·by_cases hcb' : c' = b
   ·rw [if_pos hcb'] at hq'; cases hq'; exact absurd rfl hdq'
   ·rw [if_neg hcb] at hq; rw [if_neg hcb'] at hq'
    exact k.inj c c' j j' q q' hne hc hc' hq hq' hdq hdq' hj
 ·intro c hc
  rw [H.iE] at hc
  have := k.nxt c hc
  exact ⟨by rw [H.get_put, if_neg (by omega)]; exact this.1, this.2⟩
theorem yg.alias (k : yg E base w0 μ h w) (o : Ob) (o' : Obj) (i : Info) (hne : ∀ c j q, μ c = some j → h.get c = some q → q ≠ .dead → j.r ≠ i.r) (hlt : i.r < w.heap.size) (hbase : base ≤ i.r)
  (ho : w.heap[i.r]? = some o') (hob : su E (μ.upd h.next i) i o o') : yg E base w0 (μ.upd h.next i) (h.new o) w := by
 have hn := k.nxt h.next (Nat.le_refl _)
 have hext : Ext μ (μ.upd h.next i) := Ext.upd hn.2
 refine ⟨?_, ?_, ?_, ?_, ?_, k.below, k.big⟩
 ·intro b j p hb hp
  rw [H.wu] at hp
  by_cases hbn : b = h.next
  ·subst hbn
   rw [if_pos rfl] at hp; cases hp
   rw [Mu.upd_same] at hb; cases hb
   exact ⟨o', ho, hob⟩
  ·rw [if_neg hbn] at hp
   rw [Mu.uk _ _ hbn] at hb
   obtain ⟨q, hq, hrel⟩ := k.ob b j p hb hp
   exact ⟨q, hq, hrel.mono hext⟩
 ·intro b b' j j' p p' hne' hb hb' hp hp' hd hd' hj
  rw [H.wu] at hp hp'
  by_cases hbn : b = h.next
  ·subst hbn
   rw [Mu.upd_same] at hb; cases hb
   rw [Mu.uk _ _ (Ne.symm hne')] at hb'
   rw [if_neg (Ne.symm hne')] at hp'
   exact Ne.symm (hne b' j' p' hb' hp' hd')
  ·rw [if_neg hbn] at hp
   rw [Mu.uk _ _ hbn] at hb
   by_cases hbn' : b' = h.next
   ·subst hbn'
    rw [Mu.upd_same] at hb'; cases hb'
    exact hne b j p hb hp hd
   ·rw [if_neg hbn'] at hp'
    rw [Mu.uk _ _ hbn'] at hb'
    exact k.inj b b' j j' p p' hne' hb hb' hp hp' hd hd' hj
 ·intro b j hb hj
  by_cases hbn : b = h.next
  ·subst hbn; rw [Mu.upd_same] at hb; cases hb; exact hbase
  ·rw [Mu.uk _ _ hbn] at hb; exact k.own b j hb hj
 ·intro b j hb
  by_cases hbn : b = h.next
  ·subst hbn; rw [Mu.upd_same] at hb; cases hb; exact hlt
  ·rw [Mu.uk _ _ hbn] at hb; exact k.lt b j hb
 ·intro b hb
  rw [H.fu] at hb
  have := k.nxt b (by omega)
  exact ⟨by rw [H.wu, if_neg (by omega)]; exact this.1, by rw [Mu.uk _ _ (by omega)]; exact this.2⟩
end
end Go.Ev
end
noncomputable section
namespace Go.Ev
open Go.RowKit (Below)
structure EqOk (P : Program) (t : Nat) : Prop where
 guard : P.eqGuardType P.depth t = false
 stood : P.stoodInHeld t = false
structure ed (P : Program) (t : Nat) (i : Ty) : Prop where
 desc : P.underlying t = some i.desc
 info : ∃ ti z, P.info? t = some ti ∧ ti.size = i.size ∧ ti.bytes = i.bytes ∧ ti.zero = some z ∧ (∀ μ, ze μ i.zero z) ∧ z.cells.size = i.size
 eqok : i.eqok = true → EqOk P t
 lay : ∀ o u, aaj o u i.lay = true → liesAt P P.depth t 1 o u 1 = true
structure yh (P : Program) (E : Env) : Prop where
 ty : ∀ t i, E.ty.get t = some i → ed P t i
 fn : ∀ f fn, E.fn.get f = some fn → P.funcs[f]? = some fn ∧ fn.body.isNone = false ∧ (fn.name == "runtime.NumGoroutine") = false
 mixed : P.follows .mixedOrders = true
section
variable {P : Program} {E : Env} {base : Nat} {w0 : World} {μ : Mu} {h : H} {w : World}
theorem yh.desc (K : yh P E) {t : Nat} {d : TypeDesc} (hd : descOf E t = d) (hn : d ≠ .invalid) : P.underlying t = some d := by
 unfold descOf at hd
 split at hd
 ·rename_i i hi; exact hd ▸ (K.ty t i hi).desc
 ·exact absurd hd.symm hn
theorem yh.ow (K : yh P E) {t : Nat} {i : Ty} (ht : E.ty.get t = some i) (w : World) : (sizeOf t).run P w = .ok i.size w := by
 obtain ⟨ti, z, h1, h2, _⟩ := (K.ty t i ht).info
 simp [sizeOf, typeInfo, h1, h2]
theorem yh.yj (K : yh P E) {t : Nat} (ht : has E t = true) (w : World) : (sizeOf t).run P w = .ok (oh E t) w := by
 unfold has at ht
 unfold oh
 split at ht
 ·rename_i i hi; exact K.ow hi w
 ·cases ht
theorem yh.oz (K : yh P E) {t : Nat} {i : Ty} (ht : E.ty.get t = some i) : ∃ z, (∀ w, (zeroValue t).run P w = .ok z w) ∧ (∀ μ, ze μ i.zero z) ∧ z.cells.size = i.size := by
 obtain ⟨ti, z, h1, h2, h3, h4, h5, h6⟩ := (K.ty t i ht).info
 exact ⟨z, fun w => by simp [zeroValue, typeInfo, h1, h4], h5, h6⟩
theorem yh.zU (K : yh P E) {t : Nat} {i : Ty} (ht : E.ty.get t = some i) : ∃ ti, (∀ w, (typeInfo t).run P w = .ok ti w) ∧ ti.size = i.size ∧ ti.bytes = i.bytes := by
 obtain ⟨ti, z, h1, h2, h3, h4, h5⟩ := (K.ty t i ht).info
 exact ⟨ti, fun w => by simp [typeInfo, h1], h2, h3⟩
theorem rab {t : Nat} {d : TypeDesc} (hd : P.underlying t = some d) (w : World) : (isAgg t).run P w = .ok (eG d) w := by
 unfold isAgg
 rw [Sem.run_bind, run_underlying hd w]
 cases d <;> rfl
theorem addr_add (r a j : Nat) : (⟨r, a, none⟩ : Addr).add j = ⟨r, a + j, none⟩ := by unfold Addr.add; split <;> simp_all
theorem yg.cells (k : yg E base w0 μ h w) {b : Nat} {i : Info} (hb : μ b = some i) {xs : List V} {e : Nat} {opn ro mk : Bool} {flo fhi : Nat}
  (hg : h.get b = some (.cells xs e opn ro flo fhi mk)) : ∃ cs lo hi, w.heap[i.r]? = some (.cells cs e (lo, hi)) ∧ cs.size = i.size ∧ i.ro = ro ∧ (∀ t, E.ty.get e = some t → t.size = i.esz) ∧
   i.sh + xs.length ≤ cs.size ∧ ae μ xs ((cs.toList.drop i.sh).take xs.length) ∧ (opn = false → i.sh = 0 ∧ xs.length = cs.size) ∧ (ro = false → cay i.sh xs.length flo fhi mk lo hi) := by
 obtain ⟨o', ho, hr⟩ := k.ob b i _ hb hg
 cases hr with
 | cells _ _ _ _ _ _ _ cs lo hi h1 h2 h3 h4 h5 h6 h7 => exact ⟨cs, lo, hi, ho, h1, h2, h3, h4, h5, h6, h7⟩
theorem yg.rd (k : yg E base w0 μ h w) {b o n : Nat} {l : List V} {i : Info} (hb : μ b = some i) (hr : rd h b o n = some l) :
  ∃ rl : List Value, ae μ l rl ∧ rl.length = n ∧ (∀ j v, rl[j]? = some v → w.cell? ⟨i.r, i.sh + o + j, none⟩ = some v) := by
 unfold Go.Ev.rd at hr
 split at hr
 ·rename_i xs e opn ro flo fhi mk hg
  obtain ⟨cs, lo, hi, g1, g2, g3, g4, g5, g6, g7, g8⟩ := k.cells hb hg
  rw [xx, gH] at hr
  split at hr
  ·rename_i hle
   cases hr
   by_cases hn : n = 0
   ·subst hn
    exact ⟨[], by simpa using ae.nil, rfl, fun j v hj => by simp at hj⟩
   ·have hlen : o + n ≤ xs.length := by simp at hle; omega
    have hd := g6.drop o
    rw [gH] at hd
    have ht := (hd.take n _ (by rw [xx, if_pos hle])).1
    have e1 : (((cs.toList.drop i.sh).take xs.length).drop o).take n = (cs.toList.drop (i.sh + o)).take n := by
     rw [List.drop_take, List.take_take, List.drop_drop, Nat.min_eq_left (by omega)]
    rw [e1] at ht
    refine ⟨_, ht, by simp; omega, fun j v hj => ?_⟩
    rw [cell_of_row w i.r _ cs e _ g1]
    rw [List.getElem?_take] at hj
    split at hj
    ·rw [List.getElem?_drop] at hj
     simpa using hj
    ·cases hj
  ·cases hr
 ·cases hr
theorem mO {a n : Nat} {r : Nat} {rl : List Value} (hl : rl.length = n) (hc : ∀ j v, rl[j]? = some v → w.cell? ⟨r, a + j, none⟩ = some v) :
  (loadCells ⟨r, a, none⟩ n).run P w = .ok rl.toArray w := by
 subst hl
 exact run_loadCells_list w ⟨r, a, none⟩ rl (fun j v hj => by rw [addr_add]; exact hc j v hj)
theorem yg.rd1 (k : yg E base w0 μ h w) {b o : Nat} {v : V} {i : Info} (hb : μ b = some i) (hr : rd1 h b o = some v) :
  ∃ rv, ze μ v rv ∧ w.cell? ⟨i.r, i.sh + o, none⟩ = some rv := by
 unfold Go.Ev.rd1 at hr
 split at hr
 ·rename_i xs e opn ro flo fhi mk hg
  obtain ⟨cs, lo, hi, g1, g2, g3, g4, g5, g6, g7, g8⟩ := k.cells hb hg
  obtain ⟨rv, h1, h2⟩ := g6.get o v hr
  refine ⟨rv, h2, ?_⟩
  rw [cell_of_row w i.r _ cs e _ g1]
  rw [List.getElem?_take] at h1
  split at h1
  ·rw [List.getElem?_drop] at h1; simpa using h1
  ·cases h1
 ·cases hr
theorem qL {α : Type} (l : List α) (o : Nat) (v : α) (h : o < l.length) : (l.set o v).take (o + 1) = l.take o ++ [v] := by
 rw [List.set_eq_take_append_cons_drop, if_pos h, List.take_append]
 have hl : (l.take o).length = o := by simp; omega
 rw [hl, List.take_of_length_le (by rw [hl]; omega), show o + 1 - o = 1 from by omega]
 rfl
theorem bG : ∀ (vs : List Value) (o : Nat) (w : World) (r : Nat) (cs : Array Value) (e : TypeId) (fz : Nat × Nat), w.heap[r]? = some (.cells cs e fz) → (vs = [] ∨ o + vs.length ≤ cs.size) →
  (∃ cs', (w.setCells r o vs).heap[r]? = some (.cells cs' e fz) ∧ cs'.size = cs.size ∧ (vs ≠ [] → cs'.toList = cs.toList.take o ++ vs ++ cs.toList.drop (o + vs.length)) ∧ (vs = [] → cs' = cs)) ∧
   (∀ q, q ≠ r → (w.setCells r o vs).heap[q]? = w.heap[q]?) ∧ (w.setCells r o vs).heap.size = w.heap.size ∧
   (w.setCells r o vs).os = w.os ∧ (w.setCells r o vs).tape = w.tape ∧ (w.setCells r o vs).output = w.output
 | [], o, w, r, cs, e, fz, hg, _ => ⟨⟨cs, hg, rfl, fun h => absurd rfl h, fun _ => rfl⟩, fun _ _ => rfl, rfl, rfl, rfl, rfl⟩
 | v :: vs, o, w, r, cs, e, fz, hg, hle => by
  have hle : o + (vs.length + 1) ≤ cs.size := by simpa using hle
  have hs : (w.setCell ⟨r, o, none⟩ v).heap[r]? = some (.cells (cs.setIfInBounds o v) e fz) := by
   simp only [World.setCell, Array.getElem?_modify, if_true, hg, Option.map_some]
   rfl
  have hq : ∀ q, q ≠ r → (w.setCell ⟨r, o, none⟩ v).heap[q]? = w.heap[q]? := fun q hq => by
   simp only [World.setCell, Array.getElem?_modify]; rw [if_neg (Ne.symm hq)]
  obtain ⟨⟨cs', g1, g2, g3, g3'⟩, g4, g5, g6, g7, g8⟩ := bG vs (o + 1) (w.setCell ⟨r, o, none⟩ v) r _ e fz hs (by simp; omega)
  refine ⟨⟨cs', g1, by simpa using g2, fun _ => ?_, fun hc => by cases hc⟩, fun q hqr => (g4 q hqr).trans (hq q hqr), by rw [World.setCells, g5]; simp [World.setCell], g6, g7, g8⟩
  by_cases hv : vs = []
  ·subst hv
   rw [g3' rfl]
   rw [Array.toList_setIfInBounds]
   rw [List.set_eq_take_append_cons_drop, if_pos (by simp; omega)]
   simp
  ·rw [g3 hv, Array.toList_setIfInBounds, qL _ _ _ (by simp; omega), List.drop_set_of_lt (by omega)]
   rw [List.append_assoc, List.append_assoc, List.append_assoc]
   congr 1
   simp only [List.cons_append, List.nil_append, List.length_cons]
   congr 3
   omega
theorem oN : ∀ (l : List V) (rl : List Value), ae μ l rl → lG l = true → ∀ v ∈ rl, v.oneCell' = true
 | [], _, .nil, _, v, hv => by cases hv
 | x :: l, _, .cons _ y _ l' hx hl, ha, v, hv => by
  simp only [lG] at ha
  cases ho : aD x with
  | false => rw [ho] at ha; cases ha
  | true =>
   rw [ho] at ha
   cases hv with
   | head => exact hx.one ho
   | tail _ hm => exact oN l l' hl ha v hm
theorem yg.wr (k : yg E base w0 μ h w) {b o : Nat} {vs : List V} {rvs : List Value} {h' : H} {i : Info} (hb : μ b = some i) (hr : wr h b o vs = some h') (hv : ae μ vs rvs) :
  ∃ w', (storeCells ⟨i.r, i.sh + o, none⟩ rvs).run P w = .ok () w' ∧ yg E base w0 μ h' w' := by
 unfold Go.Ev.wr at hr
 split at hr
 ·rename_i xs e opn ro flo fhi mk hg
  obtain ⟨cs, lo, hi, g1, g2, g3, g4, g5, g6, g7, g8⟩ := k.cells hb hg
  cases ro with
  | true => cases hr
  | false =>
   simp only [cond_false] at hr
   cases hcl : iI flo fhi o (av vs 0) with
   | false => rw [hcl] at hr; cases hr
   | true =>
    rw [hcl] at hr
    simp only [cond_true] at hr
    cases ha : lG vs with
    | false => rw [ha] at hr; cases hr
    | true =>
     rw [ha] at hr
     simp only [cond_true] at hr
     split at hr
     ·rename_i ys hp
      cases hr
      have hlen : vs.length = rvs.length := hv.length
      have hone := oN vs rvs hv ha
      rw [sJ] at hp
      by_cases hnil : vs = []
      ·subst hnil
       cases hv
       simp at hp; subst hp
       refine ⟨w, rfl, ?_⟩
       exact k.turn b i _ _ _ w hb g3 hg (by simp) (fun _ _ => rfl) g1 (.cells xs e opn false flo fhi mk cs lo hi g2 g3 g4 g5 g6 g7 g8) rfl ⟨rfl, rfl, rfl⟩
      ·rw [if_neg hnil] at hp
       split at hp
       ·rename_i hle
        cases hp
        have hFz := g8 rfl
        have hfree : ∀ j, j < rvs.length → w.frozen? ⟨i.r, i.sh + o + 0 + j, none⟩ = false := by
         intro j hj
         have h1 := (hFz.1 (o + j) (by omega))
         have h2 : ¬ (flo ≤ o + j ∧ o + j < fhi) := by
          simp only [iI, bu, ll, Nat.add_zero, hlen] at hcl
          by_cases c1 : fhi ≤ flo
          ·omega
          ·by_cases c2 : fhi ≤ o
           ·omega
           ·simp [c1, c2] at hcl; omega
         have h3 : ¬ (lo ≤ i.sh + (o + j) ∧ i.sh + (o + j) < hi) := fun h => h2 (h1.1 h)
         simp only [World.frozen?, g1]
         rw [Bool.and_eq_false_iff, decide_eq_false_iff_not, decide_eq_false_iff_not]
         by_cases c : lo ≤ i.sh + o + 0 + j
         ·exact .inr (fun c2 => h3 ⟨by omega, by omega⟩)
         ·exact .inl c
        have hrun := run_storeCells_cells (P := P) i.r (i.sh + o) rvs 0 w (fun j hj => by
          rw [cell_of_row w i.r _ cs e _ g1]
          simp; omega) hfree hone
        refine ⟨_, hrun, ?_⟩
        rw [Nat.add_zero]
        obtain ⟨⟨cs', q1, q2, q3, q4⟩, q5, q6, q7, q8, q9⟩ := bG rvs (i.sh + o) w i.r cs e (lo, hi) g1 (.inr (by omega))
        have hrne : rvs ≠ [] := fun hc => hnil (List.length_eq_zero_iff.1 (by rw [hlen, hc]; rfl))
        refine k.turn b i _ _ _ _ hb g3 hg (by simp) q5 q1 ?_ q6 ⟨q7, q8, q9⟩
        have hlen2 : (xs.take o ++ vs ++ xs.drop (o + vs.length)).length = xs.length := by simp; omega
        refine .cells _ e opn false flo fhi mk cs' lo hi (q2.trans g2) g3 g4 (by rw [hlen2, q2]; exact g5) ?_ (fun ho => by rw [hlen2, q2]; exact g7 ho) (fun _ => by rw [hlen2]; exact hFz)
        rw [hlen2, q3 hrne]
        have t1 : ae μ (xs.take o) (((cs.toList.drop i.sh).take xs.length).take o) := (g6.take o _ (by rw [xx, if_pos (by omega)])).1
        have t2 := g6.drop (o + vs.length)
        rw [gH] at t2
        have t3 := (t1.append hv).append t2
        rw [pz, pz] at t3
        have e1 : ((cs.toList.take (i.sh + o) ++ rvs ++ cs.toList.drop (i.sh + o + rvs.length)).drop i.sh).take xs.length =
          ((cs.toList.drop i.sh).take xs.length).take o ++ rvs ++ ((cs.toList.drop i.sh).take xs.length).drop (o + vs.length) := by
         have l1 : (cs.toList.take (i.sh + o)).length = i.sh + o := by simp; omega
         rw [List.append_assoc, List.drop_append, List.append_assoc]
         rw [l1, show i.sh - (i.sh + o) = 0 from by omega, List.drop_zero]
         rw [List.take_append, List.take_take, Nat.min_eq_left (by omega)]
         have l2 : ((cs.toList.take (i.sh + o)).drop i.sh) = (cs.toList.drop i.sh).take o := by
          rw [List.drop_take]; congr 1; omega
         rw [l2]
         have l3 : ((cs.toList.drop i.sh).take o).length = o := by simp; omega
         rw [l3, List.take_of_length_le (by rw [l3]; omega)]
         congr 1
         rw [List.take_append, List.take_of_length_le (l := rvs) (by omega)]
         congr 1
         rw [List.drop_take, List.drop_drop]
         congr 1
         ·omega
         ·congr 1; omega
        rw [e1]
        exact t3
       ·cases hp
     ·cases hr
 ·cases hr
end
end Go.Ev
end
noncomputable section
namespace Go.Ev
open Go.RowKit (Below)
section
variable {P : Program} {E : Env} {base : Nat} {w0 : World} {μ : Mu} {h : H} {w : World}
theorem si {α : Type} {b : Bool} {x : Option α} {y : α} (h : (bif b then x else none) = some y) : b = true ∧ x = some y := by
 cases b
 ·cases h
 ·exact ⟨rfl, h⟩
theorem qaf (K : yh P E) (k : yg E base w0 μ h w) {t : Nat} {a : V} {ra : Value} {v : V} (hv : ze μ a ra) (hl : loadT E t a h = some v) :
  ∃ rv ad, ra = .pointer (some ad) ∧ (loadVar t ad).run P w = .ok rv w ∧ ze μ v rv := by
 unfold loadT at hl
 split at hl
 ·rename_i b o i ht
  cases hv with
  | ptr _ _ inf hb =>
   have hd := (K.ty _ _ ht).desc
   cases hag : eG i.desc with
   | true =>
    rw [hag] at hl
    simp only [cond_true, Option.map_eq_some_iff] at hl
    obtain ⟨l, hl, rfl⟩ := hl
    obtain ⟨rl, h1, h2, h3⟩ := k.rd hb hl
    refine ⟨.agg rl.toArray, _, rfl, ?_, .agg _ _ (by simpa using h1)⟩
    simp [loadVar, rab hd, hag, K.ow ht, mO (P := P) h2 h3]
   | false =>
    rw [hag] at hl
    simp only [cond_false] at hl
    obtain ⟨rv, h1, h2⟩ := k.rd1 hb hl
    refine ⟨rv, _, rfl, ?_, h1⟩
    simp [loadVar, rab hd, hag, h2]
 ·cases hl
theorem vam (K : yh P E) (k : yg E base w0 μ h w) {t : Nat} {a v : V} {ra rv : Value} {h' : H} (ha : ze μ a ra) (hv : ze μ v rv) (hs : storeT E t a v h = some h') :
  ∃ w', (Instr.storeAt t ra rv).run P w = .ok () w' ∧ yg E base w0 μ h' w' := by
 unfold storeT at hs
 split at hs
 ·rename_i b o i ht
  obtain ⟨hlen, hs⟩ := si hs
  rw [fq, decide_eq_true_eq, ll, Nat.add_zero] at hlen
  cases ha with
  | ptr _ _ inf hb =>
   have hc := ae.cells hv
   obtain ⟨w', h1, h2⟩ := k.wr (P := P) hb hs hc
   have hl : rv.cells.size = i.size := by rw [← hlen, hc.length]; simp
   exact ⟨w', by simp [Instr.storeAt, Instr.sureAddr, storeVar, K.ow ht, hl, h1], h2⟩
 ·cases hs
theorem zG {t : Nat} {i : Ty} (ht : E.ty.get t = some i) : oh E t = i.size := by unfold oh; rw [ht]
theorem yg.row (k : yg E base w0 μ h w) (xs : List V) (rxs : List Value) (e : Nat) (hx : ae μ xs rxs) :
  ∃ w' i, (newRow e rxs.toArray).run P w = .ok ⟨i.r, 0, none⟩ w' ∧ sj μ h.next (μ.upd h.next i) ∧ yg E base w0 (μ.upd h.next i) (fresh h xs e false) w' ∧ i.r = w.heap.size ∧ i.sh = 0 ∧ i.ro = false ∧ i.size = rxs.length ∧ i.esz = oh E e := by
 have hext : Ext μ (μ.upd h.next ⟨w.heap.size, 0, false, rxs.length, oh E e, false, nofun⟩) := Ext.upd (k.nxt _ (Nat.le_refl _)).2
 refine ⟨w.alloc (.cells rxs.toArray e), ⟨w.heap.size, 0, false, rxs.length, oh E e, false, nofun⟩, rfl, sj.upd (k.nxt _ (Nat.le_refl _)).2, ?_, rfl, rfl, rfl, rfl, rfl⟩
 refine k.alloc _ _ _ rfl ?_ rfl
 refine .cells xs e false false 0 0 false rxs.toArray 0 0 (by simp) rfl (fun t ht => (zG ht).symm) (by simp [hx.length]) ?_ (fun _ => ⟨rfl, by simp [hx.length]⟩) (fun _ => ⟨fun j _ => by simp, fun _ => ⟨fun _ => rfl, fun h => absurd rfl h⟩⟩)
 simpa [hx.length] using hx.mono hext
theorem qat (K : yh P E) (k : yg E base w0 μ h w) {t : Nat} {i : Ty} (ht : E.ty.get t = some i) :
  ∃ μ' rv w', (Instr.alloc t true (.tuple #[])).run P w = .ok rv w' ∧ sj μ h.next μ' ∧ yg E base w0 μ' (fresh h i.zero.cells t false) w' ∧ ze μ' (.ptr h.next 0) rv := by
 obtain ⟨z, hz, hzr, hzs⟩ := K.oz ht
 obtain ⟨w', j, h1, h2, h3, h4, h5, h6, _⟩ := k.row (P := P) i.zero.cells z.cells.toList t (ae.cells (hzr μ))
 refine ⟨_, .pointer (some ⟨j.r, 0, none⟩), w', ?_, h2, h3, ?_⟩
 ·simp only [Array.toArray_toList] at h1
  simp [Instr.alloc, hz, newVar, h1]
 ·have := ze.ptr (μ := μ.upd h.next j) h.next 0 j (Mu.upd_same _ _ _)
  rwa [h5] at this
theorem daK (k : yg E base w0 μ h w) (t : Nat) {v : V} {rv : Value} (hv : ze μ v rv) :
  ∃ μ' ra w', (Instr.box t rv).run P w = .ok ra w' ∧ sj μ h.next μ' ∧ yg E base w0 μ' (fresh h v.cells t false) w' ∧ ze μ' (.ptr h.next 0) ra := by
 obtain ⟨w', j, h1, h2, h3, h4, h5, h6, _⟩ := k.row (P := P) v.cells rv.cells.toList t (ae.cells hv)
 refine ⟨_, .pointer (some ⟨j.r, 0, none⟩), w', ?_, h2, h3, ?_⟩
 ·simp only [Array.toArray_toList] at h1
  simp [Instr.box, newVar, h1]
 ·have := ze.ptr (μ := μ.upd h.next j) h.next 0 j (Mu.upd_same _ _ _)
  rwa [h5] at this
inductive kZ (μ : Mu) : List (Nat × V) → List (Nat × Value) → Prop where
 | nil : kZ μ [] []
 | cons (n : Nat) (v : V) (v' : Value) (l : List (Nat × V)) (l' : List (Nat × Value)) : ze μ v v' → kZ μ l l' → kZ μ ((n, v) :: l) ((n, v') :: l')
theorem ias (cells : List Value) : ∀ (vs : List Value) (o : Nat) (cs : Array Value), cs.toList = cells → o + vs.length ≤ cells.length →
  ((vs.toArray.zipIdx.foldl (fun cs (c, j) => cs.setIfInBounds (o + j) c) cs)).toList = cells.take o ++ vs ++ cells.drop (o + vs.length) := by
 intro vs o cs hcs hle
 have gen : ∀ (vs : List Value) (k : Nat) (cs : Array Value), o + k + vs.length ≤ cs.size →
   ((vs.zipIdx k).foldl (fun (cs : Array Value) (p : Value × Nat) => cs.setIfInBounds (o + p.2) p.1) cs).toList = cs.toList.take (o + k) ++ vs ++ cs.toList.drop (o + k + vs.length) := by
  intro vs
  induction vs with
  | nil => intro k cs _; simp
  | cons v vs ih =>
   intro k cs hk
   have hk : o + k + (vs.length + 1) ≤ cs.size := by simpa using hk
   simp only [List.zipIdx_cons, List.foldl_cons]
   rw [ih (k + 1) _ (by simp; omega), Array.toList_setIfInBounds, show o + (k + 1) = o + k + 1 from by omega, qL _ _ _ (by simp; omega), List.drop_set_of_lt (by omega)]
   rw [List.append_assoc, List.append_assoc, List.append_assoc]
   congr 1
   simp only [List.cons_append, List.nil_append, List.length_cons]
   congr 3
   omega
 have := gen vs 0 cs (by rw [← Array.length_toList, hcs]; omega)
 rw [← Array.foldl_toList]
 simp only [Array.toList_zipIdx]
 simpa [hcs] using this
theorem lar {μ : Mu} {cs cs' vs : List V} {rcs rvs : List Value} {o : Nat} (hc : ae μ cs rcs) (hv : ae μ vs rvs) (hp : gz cs o vs = some cs') (hne : vs ≠ []) :
  o + rvs.length ≤ rcs.length ∧ ae μ cs' (rcs.take o ++ rvs ++ rcs.drop (o + rvs.length)) := by
 rw [sJ, if_neg hne] at hp
 split at hp
 ·rename_i hle
  cases hp
  have e1 := hc.length
  have e2 := hv.length
  refine ⟨by omega, ?_⟩
  have t1 := (hc.take o _ (by rw [xx, if_pos (by omega)])).1
  have t2 := hc.drop (o + vs.length)
  rw [gH] at t2
  have t3 := (t1.append hv).append t2
  rw [pz, pz] at t3
  rw [← e2]
  exact t3
 ·cases hp
theorem vP {μ : Mu} (place : Nat → Option (Nat × Nat)) (f : List V → List (Nat × V) → Option (List V))
  (hnil : ∀ cs, f cs [] = some cs)
  (hcons : ∀ cs i v l r, f cs ((i, v) :: l) = some r → ∃ off size cs', place i = some (off, size) ∧ v.cells.length = size ∧ gz cs off v.cells = some cs' ∧ (v.cells = [] → False) ∧ f cs' l = some r) :
  ∀ (ps : List (Nat × V)) (rps : List (Nat × Value)) (cs r : List V) (rcs : Array Value), kZ μ ps rps → ae μ cs rcs.toList → f cs ps = some r →
   ∃ rr, Instr.fill place rcs rps = some rr ∧ ae μ r rr.toList
 | [], _, cs, r, rcs, .nil, hc, hf => by
  rw [hnil] at hf; cases hf
  exact ⟨rcs, rfl, hc⟩
 | (i, v) :: l, _, cs, r, rcs, .cons _ _ v' _ l' hv hl, hc, hf => by
  obtain ⟨off, size, cs', h1, h2, h3, h4, h5⟩ := hcons cs i v l r hf
  have hcel := ae.cells hv
  have hlen := hcel.length
  obtain ⟨g1, g2⟩ := lar hc hcel h3 h4
  have hsz : v'.cells.size = size := by rw [← h2, hlen]; simp
  have hle : off + v'.cells.size ≤ rcs.size := by simpa using g1
  have hfold := ias rcs.toList v'.cells.toList off rcs rfl (by simpa using g1)
  simp only [Array.toArray_toList] at hfold
  have hc' : ae μ cs' (v'.cells.zipIdx.foldl (fun cs (c, j) => cs.setIfInBounds (off + j) c) rcs).toList := by rw [hfold]; exact g2
  obtain ⟨rr, h6, h7⟩ := vP place f hnil hcons l l' cs' r _ hl hc' h5
  refine ⟨rr, ?_, h7⟩
  rw [Instr.fill, h1]
  simp only []
  rw [if_neg (by simp [hsz]; omega)]
  exact h6
theorem uaj (pl : List (Nat × Nat)) (cs : List V) (i : Nat) (v : V) (l : List (Nat × V)) (r : List V) (h : qaa pl cs ((i, v) :: l) = some r) :
  ∃ off size cs', pl[i]? = some (off, size) ∧ v.cells.length = size ∧ gz cs off v.cells = some cs' ∧ (v.cells = [] → False) ∧ qaa pl cs' l = some r := by
 simp only [qaa] at h
 split at h
 ·rename_i off size hg
  obtain ⟨h1, h⟩ := si h
  obtain ⟨h2, h⟩ := si h
  rw [fq, decide_eq_true_eq, ll, Nat.add_zero] at h1
  rw [bu, decide_eq_true_eq] at h2
  split at h
  ·rename_i cs' hp
   exact ⟨off, size, cs', by rw [← zg]; exact hg, h1, hp, fun hc => by rw [hc] at h1; simp at h1; omega, h⟩
  ·cases h
 ·cases h
theorem iN (size : Nat) (cs : List V) (i : Nat) (v : V) (l : List (Nat × V)) (r : List V) (h : wP size cs ((i, v) :: l) = some r) :
  ∃ off sz cs', some (i * size, size) = some (off, sz) ∧ v.cells.length = sz ∧ gz cs off v.cells = some cs' ∧ (v.cells = [] → False) ∧ wP size cs' l = some r := by
 simp only [wP] at h
 obtain ⟨h1, h⟩ := si h
 obtain ⟨h2, h⟩ := si h
 rw [fq, decide_eq_true_eq, ll, Nat.add_zero] at h1
 rw [bu, decide_eq_true_eq] at h2
 split at h
 ·rename_i cs' hp
  exact ⟨_, _, cs', rfl, h1, hp, fun hc => by rw [hc] at h1; simp at h1; omega, h⟩
 ·cases h
theorem dX (K : yh P E) (w : World) : ∀ (fs : List Field), hasAll E fs = true →
  (fs.mapM fun f => (do pure (f.offset, ← sizeOf f.type) : Sem (Nat × Nat))).run P w = .ok (places E fs) w
 | [], _ => by simp [places]
 | f :: l, h => by
  simp only [hasAll] at h
  cases hf : has E f.type with
  | false => rw [hf] at h; cases h
  | true =>
   rw [hf] at h
   have := dX K w l h
   simp only [List.mapM_cons, Sem.run_bind, K.yj hf, Result.andThen_ok, Sem.run_pure, this, places]
theorem qao (K : yh P E) (μ : Mu) {t : Nat} {ps : List (Nat × V)} {rps : List (Nat × Value)} {v : V} (hp : kZ μ ps rps) (hb : eak E t ps = some v) (w : World) :
  ∃ rv, (Instr.build t rps.toArray).run P w = .ok rv w ∧ ze μ v rv := by
 unfold eak at hb
 split at hb
 ·rename_i i ht
  obtain ⟨z, hz, hzr, hzs⟩ := K.oz ht
  have hd := (K.ty t i ht).desc
  split at hb
  ·rename_i fs hfs
   obtain ⟨hall, hb⟩ := si hb
   rw [Option.map_eq_some_iff] at hb
   obtain ⟨cs, hb2, rfl⟩ := hb
   obtain ⟨rr, h1, h2⟩ := vP (μ := μ) (fun i => (places E fs.toList)[i]?) (qaa (places E fs.toList)) (fun _ => rfl) (uaj _) ps rps _ cs z.cells hp (ae.cells (hzr μ)) hb2
   refine ⟨.agg rr, ?_, .agg _ _ h2⟩
   have hm := dX K w fs.toList hall
   rw [hfs] at hd
   have hm' : (fs.mapM fun f => (do pure (f.offset, ← sizeOf f.type) : Sem (Nat × Nat))).run P w = .ok (places E fs.toList).toArray w := by
    rw [Array.mapM_eq_mapM_toList]
    simp only [Sem.run_map, hm, Result.andThen_ok]
   simp only [Instr.build, Sem.run_bind, hz, Result.andThen_ok, run_underlying hd, hm', List.getElem?_toArray, h1]
   rfl
  ·rename_i len e hfs
   obtain ⟨hhas, hb⟩ := si hb
   rw [Option.map_eq_some_iff] at hb
   obtain ⟨cs, hb2, rfl⟩ := hb
   obtain ⟨rr, h1, h2⟩ := vP (μ := μ) (fun i => some (i * oh E e, oh E e)) (wP (oh E e)) (fun _ => rfl) (iN _) ps rps _ cs z.cells hp (ae.cells (hzr μ)) hb2
   refine ⟨.agg rr, ?_, .agg _ _ h2⟩
   rw [hfs] at hd
   simp only [Instr.build, Sem.run_bind, hz, Result.andThen_ok, run_underlying hd, K.yj hhas, h1]
   rfl
  ·cases hb
 ·cases hb
theorem tq {μ : Mu} {l : List V} {l' : List Value} (h : ae μ l l') : ∀ n : Nat, ae μ (rJ n l []) ((List.replicate n l').flatten)
 | 0 => by simpa [dH, eH] using ae.nil
 | n + 1 => by
  have := h.append (tq h n)
  rw [pz] at this
  rw [kV] at this ⊢
  simpa [List.replicate_succ] using this
theorem uH (z : Array Value) : ∀ n : Nat, 0 < z.size → ((Array.range (n * z.size)).map (z[· % z.size]!)).toList = (List.replicate n z.toList).flatten := by
 intro n hz
 rw [Array.toList_map, Array.toList_range]
 induction n with
 | zero => simp
 | succ n ih =>
  rw [Nat.succ_mul, List.range_add, List.map_append, ih, List.replicate_succ', List.flatten_append]
  congr 1
  simp only [List.map_map, List.flatten_cons, List.flatten_nil, List.append_nil]
  apply List.ext_getElem
  ·simp
  ·intro i h1 h2
   simp at h1
   simp [Nat.add_mod, Nat.mod_eq_of_lt h1, h1]
theorem rao (K : yh P E) (k : yg E base w0 μ h w) {t len : Nat} {ps : List (Nat × V)} {rps : List (Nat × Value)} {cs : List V} {e : Nat} (hp : kZ μ ps rps) (hb : iad E t len ps = some (cs, e)) :
  ∃ μ' rv w', (Instr.buildSlice t len rps.toArray).run P w = .ok rv w' ∧ sj μ h.next μ' ∧ yg E base w0 μ' (fresh h cs e false) w' ∧ ze μ' (.sl h.next 0 len (some len)) rv := by
 unfold iad at hb
 split at hb
 ·rename_i e' hd
  split at hb
  ·rename_i i ht
   obtain ⟨hle, hb⟩ := si hb
   rw [bu, decide_eq_true_eq] at hle
   split at hb
   ·rename_i cs' hf
    cases hb
    obtain ⟨z, hz, hzr, hzs⟩ := K.oz ht
    have hud := K.desc hd (by simp)
    have hrow : ∀ n, ae μ (rJ n i.zero.cells []) ((List.replicate n z.cells.toList).flatten) := tq (ae.cells (hzr μ))
    have hrel : ae μ (rJ len i.zero.cells []) ((Array.range (len * i.size)).map ((if len * i.size = 0 then #[] else z.cells)[· % (if len * i.size = 0 then #[] else z.cells : Array Value).size]!)).toList := by
     by_cases h0 : len * i.size = 0
     ·rw [h0]
      rcases Nat.mul_eq_zero.1 h0 with h0 | h0
      ·subst h0; simpa [dH, eH] using ae.nil
      ·have := hrow len
       rw [List.eq_nil_of_length_eq_zero (l := z.cells.toList) (by simp [hzs, h0])] at this
       simpa using this
     ·rw [if_neg h0, ← hzs, uH _ _ (by rw [hzs]; exact Nat.pos_of_ne_zero fun h => h0 (by simp [h]))]
      exact hrow len
    obtain ⟨rr, h1, h2⟩ := vP (μ := μ) (fun j => some (j * i.size, i.size)) (wP i.size) (fun _ => rfl) (iN _) ps rps _ cs _ hp hrel hf
    obtain ⟨w', j, g1, g2, g3, g4, g5, g6, _⟩ := k.row (P := P) cs rr.toList e h2
    refine ⟨_, .slice (some ⟨j.r, 0, none⟩) len len, w', ?_, g2, g3, ?_⟩
    ·simp only [Array.toArray_toList] at g1
     simp only [Instr.buildSlice, Sem.run_bind, run_underlying hud, Result.andThen_ok, K.ow ht, if_neg (Nat.not_lt.2 hle)]
     by_cases h0 : len * i.size = 0
     ·simp only [h0, if_true] at h1 ⊢
      simp only [Sem.run_bind, Sem.run_pure, Result.andThen_ok, h1, g1]
     ·simp only [h0, if_false] at h1 ⊢
      simp only [Sem.run_bind, hz, Sem.run_pure, Result.andThen_ok, h1, g1]
    ·have := ze.slE (μ := μ.upd h.next j) h.next 0 len len j (Mu.upd_same _ _ _)
     rwa [g5] at this
   ·cases hb
  ·cases hb
 ·cases hb
end
end Go.Ev
end
