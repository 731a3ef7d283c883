/- The law InquiryLong: part Ek. -/
import Derived.Test.YtcbeheaiblgpfaaGreatDoorQEj
set_option linter.unusedVariables false
set_option linter.unusedSimpArgs false
noncomputable section
namespace Go.Ev
open Go.RowKit (Below)
noncomputable section
def dal (g : Nat → Nat) : Fn → Fn
 | .yield l => .yield (g l)
 | f => f
mutual
def ren (g : Nat → Nat) : V → V
 | .ptr b o => .ptr (g b) o
 | .sl b o n c => .sl (g b) o n c
 | .map r => .map (g r)
 | .func f a b => .func (dal g f) (aJ g a) (aJ g b)
 | .iface t v => .iface t (ren g v)
 | .agg l => .agg (aJ g l)
 | .tup l => .tup (aJ g l)
 | .bool b => .bool b
 | .int k n => .int k n
 | .str s => .str s
 | .nilp => .nilp
 | .nilsl => .nilsl
 | .nilmap => .nilmap
 | .nilfunc => .nilfunc
 | .nilif => .nilif
 | .bad => .bad
def aJ (g : Nat → Nat) : List V → List V
 | [] => []
 | v :: l => ren g v :: aJ g l
end
def okFn (N : Nat) : Fn → Bool
 | .yield l => Nat.blt l N
 | _ => true
mutual
def okV (N : Nat) : V → Bool
 | .ptr b _ => Nat.blt b N
 | .sl b _ _ _ => Nat.blt b N
 | .map r => Nat.blt r N
 | .func f a b => okFn N f && okL N a && okL N b
 | .iface _ v => okV N v
 | .agg l => okL N l
 | .tup l => okL N l
 | _ => true
def okL (N : Nat) : List V → Bool
 | [] => true
 | v :: l => okV N v && okL N l
end
structure Same (i i' : Info) : Prop where
 r : i'.r = i.r
 sh : i'.sh = i.sh
 size : i'.size = i.size
 esz : i'.esz = i.esz
 lax : i'.lax = i.lax
def Moves (N : Nat) (μ1 μ2 : Mu) (f g : Nat → Nat) : Prop := ∀ c, c < N → ∀ i, μ1 (f c) = some i → ∃ i', μ2 (g c) = some i' ∧ Same i i'
theorem okB {b N : Nat} (h : Nat.blt b N = true) : b < N := by rw [au, decide_eq_true_eq] at h; exact h
section
variable {N : Nat} {μ1 μ2 : Mu} {f g : Nat → Nat}
theorem zF.move (M : Moves N μ1 μ2 f g) {x : Fn} {rx : Fn} (ho : okFn N x = true) (h : zF μ1 (dal f x) rx) : zF μ2 (dal g x) rx := by
 cases x with
 | yield l =>
  cases h with
  | yield _ i hi =>
   obtain ⟨i', h1, h2⟩ := M l (okB ho) i hi
   rw [← h2.r]
   exact .yield _ i' h1
 | func _ => cases h; constructor
 | method _ => cases h; constructor
 | methodOf _ _ => cases h; constructor
 | via _ _ _ _ => cases h; constructor
mutual
theorem ze.move (M : Moves N μ1 μ2 f g) : ∀ (v : V) (rv : Value), okV N v = true → ze μ1 (ren f v) rv → ze μ2 (ren g v) rv
 | .ptr b o, rv, ho, h => by
  rw [ren] at h ⊢
  cases h with
  | ptr _ _ i hi =>
   obtain ⟨i', h1, h2⟩ := M b (okB ho) i hi
   rw [← h2.r, ← h2.sh]
   exact .ptr _ _ i' h1
 | .sl b o n c, rv, ho, h => by
  rw [ren] at h ⊢
  cases h with
  | slE _ _ _ c i hi =>
   obtain ⟨i', h1, h2⟩ := M b (okB ho) i hi
   rw [← h2.r, ← h2.sh]
   exact .slE _ _ _ _ i' h1
  | slU _ _ _ c i hi hle hc =>
   obtain ⟨i', h1, h2⟩ := M b (okB ho) i hi
   rw [← h2.r, ← h2.sh]
   exact .slU _ _ _ _ i' h1 hle (by rw [h2.lax, h2.esz, h2.sh, h2.size]; exact hc)
  | slZ _ _ a i hi hc =>
   obtain ⟨i', h1, h2⟩ := M b (okB ho) i hi
   exact .slZ _ _ a i' h1 (by rw [h2.lax, h2.sh, h2.size]; exact hc)
 | .map r, rv, ho, h => by
  rw [ren] at h ⊢
  cases h with
  | map _ i hi =>
   obtain ⟨i', h1, h2⟩ := M r (okB ho) i hi
   rw [← h2.r]
   exact .map _ i' h1
 | .func x a b, rv, ho, h => by
  rw [ren] at h ⊢
  rw [okV, Bool.and_eq_true, Bool.and_eq_true] at ho
  cases h with
  | func _ y _ _ a' b' hf ha hb => exact .func _ _ _ _ _ _ (hf.move M ho.1.1) (ae.move M a _ ho.1.2 ha) (ae.move M b _ ho.2 hb)
 | .iface t v, rv, ho, h => by
  rw [ren] at h ⊢
  cases h with
  | iface _ _ v' hv => exact .iface _ _ _ (ze.move M v v' ho hv)
 | .agg l, rv, ho, h => by
  rw [ren] at h ⊢
  cases h with
  | agg _ l' hl => exact .agg _ _ (ae.move M l _ ho hl)
 | .tup l, rv, ho, h => by
  rw [ren] at h ⊢
  cases h with
  | tup _ l' hl => exact .tup _ _ (ae.move M l _ ho hl)
 | .bool b, rv, _, h => by rw [ren] at h ⊢; cases h; constructor
 | .int k n, rv, _, h => by rw [ren] at h ⊢; cases h; constructor
 | .str s, rv, _, h => by rw [ren] at h ⊢; cases h with | str _ b hb => exact .str _ b hb
 | .nilp, rv, _, h => by rw [ren] at h ⊢; cases h; constructor
 | .nilsl, rv, _, h => by rw [ren] at h ⊢; cases h; constructor
 | .nilmap, rv, _, h => by rw [ren] at h ⊢; cases h; constructor
 | .nilfunc, rv, _, h => by rw [ren] at h ⊢; cases h; constructor
 | .nilif, rv, _, h => by rw [ren] at h ⊢; cases h; constructor
 | .bad, rv, _, h => by rw [ren] at h ⊢; cases h with | bad _ h1 => exact .bad _ h1
theorem ae.move (M : Moves N μ1 μ2 f g) : ∀ (l : List V) (rl : List Value), okL N l = true → ae μ1 (aJ f l) rl → ae μ2 (aJ g l) rl
 | [], rl, _, h => by rw [aJ] at h ⊢; cases h; exact .nil
 | v :: l, rl, ho, h => by
  rw [aJ] at h ⊢
  rw [okL, Bool.and_eq_true] at ho
  cases h with
  | cons _ v' _ l' hv hl => exact .cons _ _ _ _ (ze.move M v v' ho.1 hv) (ae.move M l l' ho.2 hl)
end
end
mutual
theorem sab : ∀ v : V, ren id v = v
 | .func f a b => by rw [ren, xH a, xH b]; cases f <;> rfl
 | .iface t v => by rw [ren, sab v]
 | .agg l => by rw [ren, xH l]
 | .tup l => by rw [ren, xH l]
 | .ptr _ _ => rfl
 | .sl _ _ _ _ => rfl
 | .map _ => rfl
 | .bool _ => rfl
 | .int _ _ => rfl
 | .str _ => rfl
 | .nilp => rfl
 | .nilsl => rfl
 | .nilmap => rfl
 | .nilfunc => rfl
 | .nilif => rfl
 | .bad => rfl
theorem xH : ∀ l : List V, aJ id l = l
 | [] => rfl
 | v :: l => by rw [aJ, sab v, xH l]
end
def lJ (g : Nat → Nat) : List (V × V × Nat) → List (V × V × Nat)
 | [] => []
 | (k, v, b) :: l => (ren g k, ren g v, b) :: lJ g l
def vZ (N : Nat) : List (V × V × Nat) → Bool
 | [] => true
 | (k, v, _) :: l => okV N k && okV N v && vZ N l
theorem jm.move {N : Nat} {μ1 μ2 : Mu} {f g : Nat → Nat} (M : Moves N μ1 μ2 f g) : ∀ (l : List (V × V × Nat)) (rl : List MapEntry), vZ N l = true → jm μ1 (lJ f l) rl → jm μ2 (lJ g l) rl
 | [], rl, _, h => by rw [lJ] at h ⊢; cases h; exact .nil
 | (k, v, b) :: l, rl, ho, h => by
  rw [lJ] at h ⊢
  rw [vZ, Bool.and_eq_true, Bool.and_eq_true] at ho
  cases h with
  | cons _ _ _ e _ l' hk hv hb hl => exact .cons _ _ _ _ _ _ (ze.move M k _ ho.1.1 hk) (ze.move M v _ ho.1.2 hv) hb (jm.move M l l' ho.2 hl)
theorem vae : ∀ l : List (V × V × Nat), lJ id l = l
 | [] => rfl
 | (k, v, b) :: l => by rw [lJ, sab, sab, vae l]
def uI (g : Nat → Nat) : Ob → Ob
 | .cells xs e opn ro flo fhi mk => .cells (aJ g xs) e opn ro flo fhi mk
 | .map es c ro => .map (lJ g es) c ro
 | _ => .dead
theorem iy (g : Nat → Nat) : ∀ l : List V, (aJ g l).length = l.length
 | [] => rfl
 | v :: l => by rw [aJ, List.length_cons, iy g l, List.length_cons]
inductive dau (N : Nat) (g : Nat → Nat) : Ob → Ob → Prop where
 | cells (xs : List V) (e : Nat) (opn ro : Bool) (flo fhi flo' fhi' : Nat) (mk mk' : Bool) : okL N xs = true → dau N g (.cells xs e opn true flo fhi mk) (.cells (aJ g xs) e opn ro flo' fhi' mk')
 | map (es : List (V × V × Nat)) (c : Nat) (ro : Bool) : vZ N es = true → dau N g (.map es c true) (.map (lJ g es) c ro)
theorem su.raJ {E : Env} {N : Nat} {μ1 μ2 : Mu} {g : Nat → Nat} (M : Moves N μ1 μ2 g id) {i i' : Info} (hs : Same i i') (hro : i'.ro = true) {o a : Ob} {o' : Obj} (hi : dau N g o a) (h : su E μ1 i a o') : su E μ2 i' o o' := by
 cases hi with
 | cells xs e opn ro flo fhi flo' fhi' mk mk' hok =>
  cases h with
  | cells _ _ _ _ _ _ _ cs lo hi h1 h2 h3 h4 h5 h6 h7 =>
   rw [iy] at h4 h5 h6
   refine .cells xs e opn true flo fhi mk cs lo hi (by rw [hs.size]; exact h1) hro (fun t ht => by rw [hs.esz]; exact h3 t ht) (by rw [hs.sh]; exact h4) ?_ (by rw [hs.sh]; exact h6) (fun e => by cases e)
   have := ae.move M xs _ hok h5
   rw [xH] at this
   rw [hs.sh]
   exact this
 | map es c ro hok =>
  cases h with
  | map _ _ _ es' h1 h2 h3 =>
   refine .map es c true es' (by rw [hs.sh]; exact h1) hro ?_
   have := jm.move M es _ hok h3
   rw [vae] at this
   exact this
inductive xah (N : Nat) : Ob → Prop where
 | cells (xs : List V) (e : Nat) (opn : Bool) (flo fhi : Nat) (mk : Bool) : okL N xs = true → xah N (.cells xs e opn false flo fhi mk)
 | map (es : List (V × V × Nat)) (c : Nat) : vZ N es = true → xah N (.map es c false)
theorem su.fav {E : Env} {N : Nat} {μ1 μ2 : Mu} {f g : Nat → Nat} (M : Moves N μ1 μ2 f g) {i : Info} {o : Ob} {o' : Obj} (hi : xah N o) (h : su E μ1 i (uI f o) o') : su E μ2 i (uI g o) o' ∧ i.ro = false := by
 cases hi with
 | cells xs e opn flo fhi mk hok =>
  cases h with
  | cells _ _ _ _ _ _ _ cs lo hi h1 h2 h3 h4 h5 h6 h7 =>
   rw [iy] at h4 h5 h6 h7
   exact ⟨.cells _ e opn false flo fhi mk cs lo hi h1 h2 h3 (by rw [iy]; exact h4) (by rw [iy]; exact ae.move M xs _ hok h5) (by rw [iy]; exact h6) (by rw [iy]; exact h7), h2⟩
 | map es c hok =>
  cases h with
  | map _ _ _ es' h1 h2 h3 => exact ⟨.map _ c false es' h1 h2 (jm.move M es _ hok h3), h2⟩
def H.ofL : List (Option Ob) → H → H
 | [], h => h
 | some o :: l, h => H.ofL l (h.new o)
 | none :: l, h => H.ofL l ⟨h.next + 1, h.t, h.ov⟩
theorem H.xW : ∀ (l : List (Option Ob)) (h : H), (H.ofL l h).next = h.next + l.length
 | [], h => rfl
 | some o :: l, h => by rw [H.ofL, H.xW l, H.fu, List.length_cons]; omega
 | none :: l, h => by rw [H.ofL, H.xW l, List.length_cons]; show h.next + 1 + l.length = _; omega
theorem H.qK : ∀ (l : List (Option Ob)) (h : H), (∀ b, h.next ≤ b → h.get b = none) → ∀ c, (H.ofL l h).get c = if h.next ≤ c ∧ c < h.next + l.length then (bg l (c - h.next)).join else h.get c
 | [], h, hn, c => by rw [H.ofL, if_neg (by simp only [List.length_nil]; omega)]
 | some o :: l, h, hn, c => by
  rw [H.ofL, H.qK l (h.new o) (fun b hb => by rw [H.fu] at hb; rw [H.wu, if_neg (by omega)]; exact hn b (by omega)) c, H.fu, List.length_cons, H.wu]
  by_cases e : c = h.next
  ·subst e
   rw [if_neg (by omega), if_pos rfl, if_pos (by omega), Nat.sub_self]; rfl
  ·by_cases e2 : h.next + 1 ≤ c ∧ c < h.next + 1 + l.length
   ·rw [if_pos e2, if_pos (by omega), show c - h.next = (c - (h.next + 1)) + 1 from by omega, yl]
   ·rw [if_neg e2, if_neg e, if_neg (by omega)]
 | none :: l, h, hn, c => by
  have hg : ∀ b, (⟨h.next + 1, h.t, h.ov⟩ : H).get b = h.get b := fun b => rfl
  rw [H.ofL, H.qK l ⟨h.next + 1, h.t, h.ov⟩ (fun b hb => by rw [hg]; exact hn b (by simp only at hb; omega)) c, List.length_cons, hg]
  simp only
  by_cases e : c = h.next
  ·subst e
   rw [if_neg (by omega), if_pos (by omega), Nat.sub_self, eu, hn _ (Nat.le_refl _)]; rfl
  ·by_cases e2 : h.next + 1 ≤ c ∧ c < h.next + 1 + l.length
   ·rw [if_pos e2, if_pos (by omega), show c - h.next = (c - (h.next + 1)) + 1 from by omega, yl]
   ·rw [if_neg e2, if_neg (by omega)]
theorem L1.iD (n : Nat) : L1.nil.get n = none := by
 unfold L1.get L1.nil
 rcases n with _ | _ | _ | _ | _ | _ | _ | n <;> rfl
theorem L2.iD (n : Nat) : L2.nil.get n = L1.nil := by unfold L2.get L2.nil; rcases n with _ | _ | _ | _ | _ | _ | _ | n <;> rfl
theorem L3.iD (n : Nat) : L3.nil.get n = L2.nil := by unfold L3.get L3.nil; rcases n with _ | _ | _ | _ | _ | _ | _ | n <;> rfl
theorem L4.iD (n : Nat) : L4.nil.get n = L3.nil := by unfold L4.get L4.nil; rcases n with _ | _ | _ | _ | _ | _ | _ | n <;> rfl
theorem L5.iD (n : Nat) : L5.nil.get n = L4.nil := by unfold L5.get L5.nil; rcases n with _ | _ | _ | _ | _ | _ | _ | n <;> rfl
theorem H.dS (n c : Nat) : (H.empty n).get c = none := by
 rw [H.get_eq]
 show (bif Nat.blt c 32768 then ((((L5.nil.get (c / 4096)).get (c / 512 % 8)).get (c / 64 % 8)).get (c / 8 % 8)).get (c % 8) else (Tr.leaf : Tr Ob).get (c - 32768)) = none
 rw [L5.iD, L4.iD, L3.iD, L2.iD, L1.iD, Tr.ax]
 cases Nat.blt c 32768 <;> rfl
def jg (l : List (Option Ob)) : H := H.ofL l (H.empty 0)
theorem aK (l : List (Option Ob)) : (jg l).next = l.length := by rw [jg, H.xW]; show 0 + _ = _; omega
theorem nN (l : List (Option Ob)) (c : Nat) : (jg l).get c = (bg l c).join := by
 rw [jg, H.qK l _ (fun b _ => H.dS 0 b) c]
 show (if 0 ≤ c ∧ c < 0 + l.length then (bg l (c - 0)).join else (H.empty 0).get c) = _
 by_cases e : c < l.length
 ·rw [if_pos (by omega), Nat.sub_zero]
 ·rw [if_neg (by omega), H.dS, zg, List.getElem?_eq_none (by omega)]; rfl
def oP (g : Nat → Nat) : List Ob → H → H
 | [], h => h
 | o :: l, h => oP g l (h.new (uI g o))
theorem maa (g : Nat → Nat) : ∀ (l : List Ob) (h : H), (oP g l h).next = h.next + l.length
 | [], h => rfl
 | o :: l, h => by rw [oP, maa g l, H.fu, List.length_cons]; omega
theorem nP (g : Nat → Nat) : ∀ (l : List Ob) (h : H) (c : Nat), (oP g l h).get c = if h.next ≤ c ∧ c < h.next + l.length then (bg l (c - h.next)).map (uI g) else h.get c
 | [], h, c => by rw [oP, if_neg (by simp only [List.length_nil]; omega)]
 | o :: l, h, c => by
  rw [oP, nP g l _ c, H.fu, List.length_cons, H.wu]
  by_cases e : c = h.next
  ·subst e
   rw [if_neg (by omega), if_pos rfl, if_pos (by omega), Nat.sub_self]; rfl
  ·by_cases e2 : h.next + 1 ≤ c ∧ c < h.next + 1 + l.length
   ·rw [if_pos e2, if_pos (by omega), show c - h.next = (c - (h.next + 1)) + 1 from by omega, yl]
   ·rw [if_neg e2, if_neg e, if_neg (by omega)]
end
end Go.Ev
end
noncomputable section
namespace Go.Ev
open Go.RowKit (Below)
structure Ent where
 f : Nat
 args : List V
 hin : List (Option Ob)
 out : V
 hout : List Ob
structure cau (ng : Nat) (e : Ent) (args : List V) (h : H) (g : Nat → Nat) : Prop where
 len : ng ≤ e.hin.length
 sP : ∀ c, c < ng → g c = c
 ok : okL e.hin.length e.args = true
 args : aJ g e.args = args
 obs : ∀ c o, bg e.hin c = some (some o) → ∃ a, h.get (g c) = some a ∧ dau e.hin.length g o a
structure vak (e : Ent) (v : V) (h : H) (g : Nat → Nat) : Prop where
 old : ∀ c, c < e.hin.length → g c = c
 ok : okV (e.hin.length + e.hout.length) e.out = true
 out : ren g e.out = v
 obs : ∀ j o, bg e.hout j = some o → xah (e.hin.length + e.hout.length) o ∧ h.get (g (e.hin.length + j)) = some (uI g o)
 nodup : ∀ j j', j < e.hout.length → j' < e.hout.length → j ≠ j' → g (e.hin.length + j) ≠ g (e.hin.length + j')
def lift (i : Info) : Info := ⟨i.r, i.sh, true, i.size, i.esz, i.lax, fun _ => rfl⟩
theorem iaa (i : Info) : Same i (lift i) := ⟨rfl, rfl, rfl, rfl, rfl⟩
theorem zam (i : Info) : Same (lift i) i := ⟨rfl, rfl, rfl, rfl, rfl⟩
theorem Same.refl (i : Info) : Same i i := ⟨rfl, rfl, rfl, rfl, rfl⟩
def mR (N : Nat) (μ : Mu) (g : Nat → Nat) : Mu := fun c => if c < N then (μ (g c)).map lift else none
def rho (N n : Nat) (g : Nat → Nat) : Nat → Nat := fun c => bif Nat.blt c N then g c else n + (c - N)
def rF (N n M : Nat) (μ μ' : Mu) (g' : Nat → Nat) : Mu := fun b => if b < n then μ b else if b < n + M then μ' (g' (N + (b - n))) else none
section
variable {P : Program} {E : Env} {base : Nat} {w0 : World} {μ : Mu} {h : H} {w : World} {e : Ent} {args : List V} {g : Nat → Nat}
theorem aH {N : Nat} {c : Nat} {i : Info} (hc : mR N μ g c = some i) : c < N ∧ ∃ i0, μ (g c) = some i0 ∧ i = lift i0 := by
 unfold mR at hc
 split at hc
 ·rename_i hlt
  cases hm : μ (g c) with
  | none => rw [hm] at hc; cases hc
  | some i0 => rw [hm] at hc; cases hc; exact ⟨hlt, i0, rfl, rfl⟩
 ·cases hc
theorem gag (N : Nat) : Moves N μ (mR N μ g) g id := fun c hc i hi => ⟨lift i, by show mR N μ g c = _; unfold mR; rw [if_pos hc, hi]; rfl, iaa i⟩
theorem aaw (k : yg E base w0 μ h w) (I : cau E.ng e args h g) : yg E w.heap.size w (mR e.hin.length μ g) (jg e.hin) w := by
 refine ⟨?_, ?_, ?_, ?_, ?_, Below.refl _ _, Nat.le_refl _⟩
 ·intro b i o hb ho
  obtain ⟨_, i0, h1, rfl⟩ := aH hb
  rw [nN] at ho
  have ho : bg e.hin b = some (some o) := by
   cases hl : bg e.hin b with
   | none => rw [hl] at ho; cases ho
   | some x => rw [hl] at ho; cases x with
    | none => cases ho
    | some y => cases ho; rfl
  obtain ⟨a, h2, h3⟩ := I.obs b o ho
  obtain ⟨o', h4, h5⟩ := k.ob _ i0 a h1 h2
  exact ⟨o', h4, su.raJ (gag _) (iaa i0) rfl h3 h5⟩
 ·intro b b' i i' o o' _ hb _ _ _ _ _ hro
  obtain ⟨_, i0, _, rfl⟩ := aH hb
  cases hro
 ·intro b i hb hro
  obtain ⟨_, i0, _, rfl⟩ := aH hb
  cases hro
 ·intro b i hb
  obtain ⟨_, i0, h1, rfl⟩ := aH hb
  exact k.lt _ i0 h1
 ·intro b hb
  rw [aK] at hb
  refine ⟨by rw [nN, zg, List.getElem?_eq_none (by omega)]; rfl, ?_⟩
  unfold mR
  rw [if_neg (by omega)]
theorem baw (G : sG E μ) (I : cau E.ng e args h g) : sG E (mR e.hin.length μ g) := by
 intro b hb
 obtain ⟨i, h1, h2, h3⟩ := G b hb
 refine ⟨lift i, ?_, h2, h3⟩
 unfold mR
 rw [if_pos (by have := I.len; omega), I.sP b hb, h1]; rfl
theorem caa (k : yg E base w0 μ h w) {μ' : Mu} {g' : Nat → Nat} (hold : ∀ c, c < e.hin.length → g' c = c) (hx : sj (mR e.hin.length μ g) e.hin.length μ') :
  Moves (e.hin.length + e.hout.length) μ' (rF e.hin.length h.next e.hout.length μ μ' g') g' (rho e.hin.length h.next g) := by
 intro c hc i hi
 by_cases hlt : c < e.hin.length
 ·rw [hold c hlt] at hi
  cases hm : mR e.hin.length μ g c with
  | none => rw [hx.keep c hlt hm] at hi; cases hi
  | some i0 =>
   have := hx.ext c i0 hm
   rw [hi] at this
   cases this
   obtain ⟨_, i1, h1, rfl⟩ := aH hm
   have hn : g c < h.next := Nat.lt_of_not_le fun hle => by have := (k.nxt _ hle).2; rw [h1] at this; cases this
   refine ⟨i1, ?_, zam i1⟩
   unfold rho rF
   rw [au, decide_eq_true hlt, cond_true, if_pos hn, h1]
 ·refine ⟨i, ?_, Same.refl i⟩
  unfold rho rF
  rw [au, decide_eq_false hlt, cond_false, if_neg (by omega), if_pos (by omega), show e.hin.length + (h.next + (c - e.hin.length) - h.next) = c from by omega]
  exact hi
theorem yaq (k : yg E base w0 μ h w) {μ' : Mu} {g' : Nat → Nat} {v : V} {h' : H} {w' : World} (U : vak e v h' g') (hx : sj (mR e.hin.length μ g) e.hin.length μ') (k' : yg E w.heap.size w μ' h' w') :
  sj μ h.next (rF e.hin.length h.next e.hout.length μ μ' g') ∧ yg E base w0 (rF e.hin.length h.next e.hout.length μ μ' g') (oP (rho e.hin.length h.next g) e.hout h) w' := by
 have hM := caa (e := e) (g := g) k U.old hx
 have hlt : ∀ b i, μ b = some i → b < h.next := fun b i hb => Nat.lt_of_not_le fun hle => by have := (k.nxt _ hle).2; rw [hb] at this; cases this
 have hext : sj μ h.next (rF e.hin.length h.next e.hout.length μ μ' g') :=
  ⟨fun b i hb => by unfold rF; rw [if_pos (hlt b i hb)]; exact hb, fun b hb hn => by unfold rF; rw [if_pos hb]; exact hn⟩
 have old : ∀ b i, rF e.hin.length h.next e.hout.length μ μ' g' b = some i → b < h.next → μ b = some i := by
  intro b i hb hl
  unfold rF at hb
  rw [if_pos hl] at hb
  exact hb
 have new : ∀ b i, rF e.hin.length h.next e.hout.length μ μ' g' b = some i → ¬ b < h.next → ∃ j, j < e.hout.length ∧ b = h.next + j ∧ μ' (g' (e.hin.length + j)) = some i := by
  intro b i hb hl
  unfold rF at hb
  rw [if_neg hl] at hb
  split at hb
  ·exact ⟨b - h.next, by omega, by omega, hb⟩
  ·cases hb
 have xO : ∀ j, j < e.hout.length → ∀ i, μ' (g' (e.hin.length + j)) = some i → ∃ o o', bg e.hout j = some o ∧ w'.heap[i.r]? = some o' ∧ su E (rF e.hin.length h.next e.hout.length μ μ' g') i (uI (rho e.hin.length h.next g) o) o' ∧ i.ro = false ∧
   h'.get (g' (e.hin.length + j)) = some (uI g' o) ∧ uI g' o ≠ .dead := by
  intro j hj i hi
  cases ho : bg e.hout j with
  | none => rw [zg, List.getElem?_eq_none_iff] at ho; omega
  | some o =>
   obtain ⟨h1, h2⟩ := U.obs j o ho
   obtain ⟨o', h3, h4⟩ := k'.ob _ i _ hi h2
   obtain ⟨h5, h6⟩ := su.fav hM h1 h4
   exact ⟨o, o', rfl, h3, h5, h6, h2, by cases h1 <;> (intro e; cases e)⟩
 have hgetOld : ∀ b, b < h.next → (oP (rho e.hin.length h.next g) e.hout h).get b = h.get b := fun b hb => by rw [nP, if_neg (by omega)]
 have hgetNew : ∀ j, j < e.hout.length → (oP (rho e.hin.length h.next g) e.hout h).get (h.next + j) = (bg e.hout j).map (uI (rho e.hin.length h.next g)) := fun j hj => by
  rw [nP, if_pos (by omega), show h.next + j - h.next = j from by omega]
 have hbig : ∀ j, j < e.hout.length → ∀ i, μ' (g' (e.hin.length + j)) = some i → w.heap.size ≤ i.r := fun j hj i hi => by
  obtain ⟨_, _, _, _, _, h6, _⟩ := xO j hj i hi
  exact k'.own _ i hi h6
 refine ⟨hext, ?_, ?_, ?_, ?_, ?_, k.below.trans (k'.below.mono k.big), Nat.le_trans k.big k'.below.size⟩
 ·intro b i o hb ho
  by_cases hl : b < h.next
  ·have hb := old b i hb hl
   rw [hgetOld b hl] at ho
   obtain ⟨o', h1, h2⟩ := k.ob b i o hb ho
   exact ⟨o', by rw [k'.below.block _ (k.lt b i hb)]; exact h1, h2.mono hext.ext⟩
  ·obtain ⟨j, hj, rfl, hi⟩ := new b i hb hl
   obtain ⟨o1, o', h1, h2, h3, _⟩ := xO j hj i hi
   rw [hgetNew j hj, h1] at ho
   cases ho
   exact ⟨o', h2, h3⟩
 ·intro b b' i i' o o' hne hb hb' ho ho' hd hd' hro
  by_cases hl : b < h.next
  ·have hb := old b i hb hl
   by_cases hl' : b' < h.next
   ·rw [hgetOld b hl] at ho
    rw [hgetOld b' hl'] at ho'
    exact k.inj b b' i i' o o' hne hb (old b' i' hb' hl') ho ho' hd hd' hro
   ·obtain ⟨j, hj, rfl, hi⟩ := new b' i' hb' hl'
    have h1 := k.lt b i hb
    have h2 := hbig j hj i' hi
    omega
  ·obtain ⟨j, hj, rfl, hi⟩ := new b i hb hl
   by_cases hl' : b' < h.next
   ·have hb' := old b' i' hb' hl'
    have h1 := k.lt b' i' hb'
    have h2 := hbig j hj i hi
    omega
   ·obtain ⟨j', hj', rfl, hi'⟩ := new b' i' hb' hl'
    obtain ⟨_, _, _, _, _, _, h1, h2⟩ := xO j hj i hi
    obtain ⟨_, _, _, _, _, _, h3, h4⟩ := xO j' hj' i' hi'
    exact k'.inj _ _ i i' _ _ (U.nodup j j' hj hj' (fun e => hne (by rw [e]))) hi hi' h1 h3 h2 h4 hro
 ·intro b i hb hro
  by_cases hl : b < h.next
  ·exact k.own b i (old b i hb hl) hro
  ·obtain ⟨j, hj, rfl, hi⟩ := new b i hb hl
   exact Nat.le_trans k.big (hbig j hj i hi)
 ·intro b i hb
  by_cases hl : b < h.next
  ·exact Nat.lt_of_lt_of_le (k.lt b i (old b i hb hl)) k'.below.size
  ·obtain ⟨j, hj, rfl, hi⟩ := new b i hb hl
   exact k'.lt _ i hi
 ·intro b hb
  rw [maa] at hb
  refine ⟨by rw [nP, if_neg (by omega)]; exact (k.nxt b (by omega)).1, ?_⟩
  unfold rF
  rw [if_neg (by omega), if_neg (by omega)]
end
end Go.Ev
end
noncomputable section
namespace Go.Ev
noncomputable section
def gOf (s : List Nat) (c : Nat) : Nat := @Option.rec Nat (fun _ => Nat) 0 (fun b => b) (bg s c)
def zx (a b : Bool) : Bool := @Bool.rec (fun _ => Bool) false b a
def cas (v : V) : List Nat → List Nat := @V.rec (fun _ => List Nat → List Nat) (fun _ => List Nat → List Nat) (fun _ l => l) (fun _ _ l => l) (fun _ l => l) (fun l => l) (fun b _ l => b :: l) (fun l => l) (fun b _ _ _ l => b :: l) (fun l => l) (fun r l => r :: l)
 (fun _ _ _ iha ihb l => iha (ihb l)) (fun l => l) (fun _ _ ih l => ih l) (fun l => l) (fun _ ih l => ih l) (fun _ ih l => ih l) (fun l => l) (fun l => l) (fun _ _ ihv ihl l => ihv (ihl l)) v
def daw : List V → List Nat → List Nat
 | [], l => l
 | v :: r, l => cas v (daw r l)
def zax : List (V × V × Nat) → List Nat
 | [] => []
 | (k, v, _) :: r => cas k (cas v (zax r))
def yax : Ob → List Nat
 | .cells xs _ _ _ _ _ _ => daw xs []
 | .map es _ _ => zax es
 | _ => []
def gau : List Nat → List Nat → List Nat × Nat → List Nat × Nat
 | c :: l, b :: m, (s, n) => gau l m (bif Nat.beq c n then (b :: s, n + 1) else (s, n))
 | _, _, p => p
def ual (h : H) : List (Option Ob) → Nat → List Nat × Nat → List Nat × Nat
 | [], _, p => p
 | none :: l, i, p => ual h l (i + 1) p
 | some o :: l, i, (s, n) => match bg s (n - 1 - i) with
  | some b => match h.get b with
   | some a => ual h l (i + 1) (gau (yax o) (yax a) (s, n))
   | none => (s, n)
  | none => (s, n)
def sZ : List Nat → List Nat → List Nat
 | [], m => m
 | x :: l, m => sZ l (x :: m)
def qas : Nat → List Nat
 | 0 => []
 | n + 1 => n :: qas n
def aaa : Nat → List Nat → Nat → Bool
 | 0, _, _ => true
 | n + 1, b :: l, i => zx (Nat.beq b i) (aaa n l (i + 1))
 | _ + 1, [], _ => false
def unFn (g : Nat → Nat) (f : Fn) : Fn → Bool := match f with
 | .func a => fun f' => match f' with | .func b => Nat.beq a b | _ => false
 | _ => fun _ => false
def unV (g : Nat → Nat) (v : V) : V → Bool := @V.rec (fun _ => V → Bool) (fun _ => List V → Bool)
 (fun b w => (@V.rec (fun _ => Bool → Bool) (fun _ => PUnit.{1}) (fun b' => fun b => Bool.beq b b') (fun _ _ => fun _ => false) (fun _ => fun _ => false) (fun _ => false) (fun _ _ => fun _ => false) (fun _ => false) (fun _ _ _ _ => fun _ => false) (fun _ => false) (fun _ => fun _ => false) (fun _ _ _ _ _ => fun _ => false) (fun _ => false) (fun _ _ _ => fun _ => false) (fun _ => false) (fun _ _ => fun _ => false) (fun _ _ => fun _ => false) (fun _ => false) PUnit.unit (fun _ _ _ _ => PUnit.unit)) w b)
 (fun k n w => (@V.rec (fun _ => IntKind → Int → Bool) (fun _ => PUnit.{1}) (fun _ => fun _ _ => false) (fun k' m => fun k n => zx (keq k k') (caw n m)) (fun _ => fun _ _ => false) (fun _ _ => false) (fun _ _ => fun _ _ => false) (fun _ _ => false) (fun _ _ _ _ => fun _ _ => false) (fun _ _ => false) (fun _ => fun _ _ => false) (fun _ _ _ _ _ => fun _ _ => false) (fun _ _ => false) (fun _ _ _ => fun _ _ => false) (fun _ _ => false) (fun _ _ => fun _ _ => false) (fun _ _ => fun _ _ => false) (fun _ _ => false) PUnit.unit (fun _ _ _ _ => PUnit.unit)) w k n)
 (fun s w => (@V.rec (fun _ => List Nat → Bool) (fun _ => PUnit.{1}) (fun _ => fun _ => false) (fun _ _ => fun _ => false) (fun s' => fun s => cu s s') (fun _ => false) (fun _ _ => fun _ => false) (fun _ => false) (fun _ _ _ _ => fun _ => false) (fun _ => false) (fun _ => fun _ => false) (fun _ _ _ _ _ => fun _ => false) (fun _ => false) (fun _ _ _ => fun _ => false) (fun _ => false) (fun _ _ => fun _ => false) (fun _ _ => fun _ => false) (fun _ => false) PUnit.unit (fun _ _ _ _ => PUnit.unit)) w s)
 (fun w => (@V.rec (fun _ => Bool) (fun _ => PUnit.{1}) (fun _ => false) (fun _ _ => false) (fun _ => false) (true) (fun _ _ => false) (false) (fun _ _ _ _ => false) (false) (fun _ => false) (fun _ _ _ _ _ => false) (false) (fun _ _ _ => false) (false) (fun _ _ => false) (fun _ _ => false) (false) PUnit.unit (fun _ _ _ _ => PUnit.unit)) w)
 (fun b o w => (@V.rec (fun _ => Nat → Nat → Bool) (fun _ => PUnit.{1}) (fun _ => fun _ _ => false) (fun _ _ => fun _ _ => false) (fun _ => fun _ _ => false) (fun _ _ => false) (fun b' o' => fun b o => zx (Nat.beq b b') (Nat.beq o o')) (fun _ _ => false) (fun _ _ _ _ => fun _ _ => false) (fun _ _ => false) (fun _ => fun _ _ => false) (fun _ _ _ _ _ => fun _ _ => false) (fun _ _ => false) (fun _ _ _ => fun _ _ => false) (fun _ _ => false) (fun _ _ => fun _ _ => false) (fun _ _ => fun _ _ => false) (fun _ _ => false) PUnit.unit (fun _ _ _ _ => PUnit.unit)) w (g b) o)
 (fun w => (@V.rec (fun _ => Bool) (fun _ => PUnit.{1}) (fun _ => false) (fun _ _ => false) (fun _ => false) (false) (fun _ _ => false) (true) (fun _ _ _ _ => false) (false) (fun _ => false) (fun _ _ _ _ _ => false) (false) (fun _ _ _ => false) (false) (fun _ _ => false) (fun _ _ => false) (false) PUnit.unit (fun _ _ _ _ => PUnit.unit)) w)
 (fun b o n c w => (@V.rec (fun _ => Nat → Nat → Nat → Option Nat → Bool) (fun _ => PUnit.{1}) (fun _ => fun _ _ _ _ => false) (fun _ _ => fun _ _ _ _ => false) (fun _ => fun _ _ _ _ => false) (fun _ _ _ _ => false) (fun _ _ => fun _ _ _ _ => false) (fun _ _ _ _ => false) (fun b' o' n' c' => fun b o n c => zx (Nat.beq b b') (zx (Nat.beq o o') (zx (Nat.beq n n') (@Option.rec Nat (fun _ => Bool) (@Option.rec Nat (fun _ => Bool) true (fun _ => false) c') (fun x => @Option.rec Nat (fun _ => Bool) false (fun y => Nat.beq x y) c') c)))) (fun _ _ _ _ => false) (fun _ => fun _ _ _ _ => false) (fun _ _ _ _ _ => fun _ _ _ _ => false) (fun _ _ _ _ => false) (fun _ _ _ => fun _ _ _ _ => false) (fun _ _ _ _ => false) (fun _ _ => fun _ _ _ _ => false) (fun _ _ => fun _ _ _ _ => false) (fun _ _ _ _ => false) PUnit.unit (fun _ _ _ _ => PUnit.unit)) w (g b) o n c)
 (fun w => (@V.rec (fun _ => Bool) (fun _ => PUnit.{1}) (fun _ => false) (fun _ _ => false) (fun _ => false) (false) (fun _ _ => false) (false) (fun _ _ _ _ => false) (true) (fun _ => false) (fun _ _ _ _ _ => false) (false) (fun _ _ _ => false) (false) (fun _ _ => false) (fun _ _ => false) (false) PUnit.unit (fun _ _ _ _ => PUnit.unit)) w)
 (fun r w => (@V.rec (fun _ => Nat → Bool) (fun _ => PUnit.{1}) (fun _ => fun _ => false) (fun _ _ => fun _ => false) (fun _ => fun _ => false) (fun _ => false) (fun _ _ => fun _ => false) (fun _ => false) (fun _ _ _ _ => fun _ => false) (fun _ => false) (fun r' => fun r => Nat.beq r r') (fun _ _ _ _ _ => fun _ => false) (fun _ => false) (fun _ _ _ => fun _ => false) (fun _ => false) (fun _ _ => fun _ => false) (fun _ _ => fun _ => false) (fun _ => false) PUnit.unit (fun _ _ _ _ => PUnit.unit)) w (g r))
 (fun f _ _ iha ihb w => (@V.rec (fun _ => Fn → (List V → Bool) → (List V → Bool) → Bool) (fun _ => PUnit.{1}) (fun _ => fun _ _ _ => false) (fun _ _ => fun _ _ _ => false) (fun _ => fun _ _ _ => false) (fun _ _ _ => false) (fun _ _ => fun _ _ _ => false) (fun _ _ _ => false) (fun _ _ _ _ => fun _ _ _ => false) (fun _ _ _ => false) (fun _ => fun _ _ _ => false) (fun f' a' b' _ _ => fun f iha ihb => zx (unFn g f f') (zx (iha a') (ihb b'))) (fun _ _ _ => false) (fun _ _ _ => fun _ _ _ => false) (fun _ _ _ => false) (fun _ _ => fun _ _ _ => false) (fun _ _ => fun _ _ _ => false) (fun _ _ _ => false) PUnit.unit (fun _ _ _ _ => PUnit.unit)) w f iha ihb)
 (fun w => (@V.rec (fun _ => Bool) (fun _ => PUnit.{1}) (fun _ => false) (fun _ _ => false) (fun _ => false) (false) (fun _ _ => false) (false) (fun _ _ _ _ => false) (false) (fun _ => false) (fun _ _ _ _ _ => false) (true) (fun _ _ _ => false) (false) (fun _ _ => false) (fun _ _ => false) (false) PUnit.unit (fun _ _ _ _ => PUnit.unit)) w)
 (fun t _ ih w => (@V.rec (fun _ => Nat → (V → Bool) → Bool) (fun _ => PUnit.{1}) (fun _ => fun _ _ => false) (fun _ _ => fun _ _ => false) (fun _ => fun _ _ => false) (fun _ _ => false) (fun _ _ => fun _ _ => false) (fun _ _ => false) (fun _ _ _ _ => fun _ _ => false) (fun _ _ => false) (fun _ => fun _ _ => false) (fun _ _ _ _ _ => fun _ _ => false) (fun _ _ => false) (fun t' v' _ => fun t ih => zx (Nat.beq t t') (ih v')) (fun _ _ => false) (fun _ _ => fun _ _ => false) (fun _ _ => fun _ _ => false) (fun _ _ => false) PUnit.unit (fun _ _ _ _ => PUnit.unit)) w t ih)
 (fun w => (@V.rec (fun _ => Bool) (fun _ => PUnit.{1}) (fun _ => false) (fun _ _ => false) (fun _ => false) (false) (fun _ _ => false) (false) (fun _ _ _ _ => false) (false) (fun _ => false) (fun _ _ _ _ _ => false) (false) (fun _ _ _ => false) (true) (fun _ _ => false) (fun _ _ => false) (false) PUnit.unit (fun _ _ _ _ => PUnit.unit)) w)
 (fun _ ih w => (@V.rec (fun _ => (List V → Bool) → Bool) (fun _ => PUnit.{1}) (fun _ => fun _ => false) (fun _ _ => fun _ => false) (fun _ => fun _ => false) (fun _ => false) (fun _ _ => fun _ => false) (fun _ => false) (fun _ _ _ _ => fun _ => false) (fun _ => false) (fun _ => fun _ => false) (fun _ _ _ _ _ => fun _ => false) (fun _ => false) (fun _ _ _ => fun _ => false) (fun _ => false) (fun l' _ => fun ih => ih l') (fun _ _ => fun _ => false) (fun _ => false) PUnit.unit (fun _ _ _ _ => PUnit.unit)) w ih)
 (fun _ ih w => (@V.rec (fun _ => (List V → Bool) → Bool) (fun _ => PUnit.{1}) (fun _ => fun _ => false) (fun _ _ => fun _ => false) (fun _ => fun _ => false) (fun _ => false) (fun _ _ => fun _ => false) (fun _ => false) (fun _ _ _ _ => fun _ => false) (fun _ => false) (fun _ => fun _ => false) (fun _ _ _ _ _ => fun _ => false) (fun _ => false) (fun _ _ _ => fun _ => false) (fun _ => false) (fun _ _ => fun _ => false) (fun l' _ => fun ih => ih l') (fun _ => false) PUnit.unit (fun _ _ _ _ => PUnit.unit)) w ih)
 (fun _ => false)
 (fun w => @List.rec V (fun _ => Bool) true (fun _ _ _ => false) w)
 (fun _ _ ihv ihl w => @List.rec V (fun _ => Bool) false (fun v' l' _ => zx (ihv v') (ihl l')) w) v
def unL (g : Nat → Nat) (l m : List V) : Bool := unV g (.agg l) (.agg m)
def tap (g : Nat → Nat) : List (V × V × Nat) → List (V × V × Nat) → Bool
 | [], [] => true
 | (k, v, b) :: l, (k', v', b') :: m => zx (unV g k k') (zx (unV g v v') (zx (Nat.beq b b') (tap g l m)))
 | _, _ => false
def oaI (g : Nat → Nat) : Ob → Ob → Bool
 | .cells xs e opn _ _ _ _, .cells ys e' opn' _ _ _ _ => zx (unL g xs ys) (zx (Nat.beq e e') (Bool.beq opn opn'))
 | .map es c _, .map es' c' _ => zx (tap g es es') (Nat.beq c c')
 | _, _ => false
def sap (g : Nat → Nat) : Ob → Ob → Bool
 | .cells xs e opn _ flo fhi mk, .cells ys e' opn' ro' flo' fhi' mk' => zx (unL g xs ys) (zx (Nat.beq e e') (zx (Bool.beq opn opn') (zx (Bool.beq ro' false) (zx (Nat.beq flo flo') (zx (Nat.beq fhi fhi') (Bool.beq mk mk'))))))
 | .map es c _, .map es' c' ro' => zx (tap g es es') (zx (Nat.beq c c') (Bool.beq ro' false))
 | _, _ => false
def taa (g : Nat → Nat) (h : H) : List (Option Ob) → Nat → Bool
 | [], _ => true
 | none :: l, i => taa g h l (i + 1)
 | some o :: l, i => match h.get (g i) with
  | some a => zx (oaI g o a) (taa g h l (i + 1))
  | none => false
def fad (g : Nat → Nat) (h : H) : List Ob → Nat → Bool
 | [], _ => true
 | o :: l, i => match h.get (g i) with
  | some a => zx (sap g o a) (fad g h l (i + 1))
  | none => false
def bac : List Nat → Bool
 | [] => true
 | b :: l => bif bD b l then false else bac l
def baJ (N : Nat) : Ob → Bool
 | .cells xs _ _ ro _ _ _ => ro && okL N xs
 | .map es _ ro => ro && vZ N es
 | _ => false
def xO (N : Nat) : Ob → Bool
 | .cells xs _ _ ro _ _ _ => !ro && okL N xs
 | .map es _ ro => !ro && vZ N es
 | _ => false
def cab (N : Nat) : List (Option Ob) → Bool
 | [] => true
 | none :: l => cab N l
 | some o :: l => baJ N o && cab N l
def bZ (N : Nat) : List Ob → Bool
 | [] => true
 | o :: l => xO N o && bZ N l
def df (ng : Nat) (e : Ent) : Bool :=
 Nat.ble ng e.hin.length && okL e.hin.length e.args && cab e.hin.length e.hin && okV (e.hin.length + e.hout.length) e.out && bZ (e.hin.length + e.hout.length) e.hout
def gac (ng : Nat) (e : Ent) (args : List V) (h : H) : Option (List Nat) :=
 match ual h e.hin 0 (gau (daw e.args []) (daw args []) (qas ng, ng)) with
 | (s, _) => match sZ s [] with
  | s => bif zx (aaa ng s 0) (zx (unL (gOf s) e.args args) (taa (gOf s) h e.hin 0)) then some s else none
def jal : List Ob → List (Option Ob)
 | [] => []
 | o :: l => some o :: jal l
def kg (e : Ent) (f : Nat) (v : V) (h : H) : Bool :=
 zx (Nat.beq f e.f) (match ual h (jal e.hout) e.hin.length (gau (cas e.out []) (cas v []) (qas e.hin.length, e.hin.length)) with
 | (s, _) => match sZ s [] with
  | s => zx (aaa e.hin.length s 0) (zx (unV (gOf s) e.out v) (zx (fad (gOf s) h e.hout e.hin.length) (zx (Nat.beq (av s 0) (e.hin.length + e.hout.length)) (bac s)))))
def outOf (e : Ent) (s : List Nat) (h : H) : List (V × H) := [(ren (rho e.hin.length h.next (gOf s)) e.out, oP (rho e.hin.length h.next (gOf s)) e.hout h)]
def ah (ng : Nat) : List Ent → Orc
 | [], _, _, _ => none
 | e :: es, f, args, h => bif Nat.beq f e.f then (match gac ng e args h with
  | some s => some (outOf e s h)
  | none => ah ng es f args h) else ah ng es f args h
def nk : List Ent → Nat → Bool
 | [], _ => false
 | e :: es, f => bif Nat.beq f e.f then true else nk es f
def ug (E : Env) (es : List Ent) (e : Ent) : Prop :=
 df E.ng e = true ∧ ∃ n, ig E e.f e.args .normal [] (jg e.hin) (goN ⟨E, ah E.ng es, nk es, kg e⟩ n) = true
end
theorem mh {a b : Bool} (h : zx a b = true) : a = true ∧ b = true := by
 cases a
 ·cases h
 ·exact ⟨rfl, h⟩
theorem uao {a b : Bool} (h : Bool.beq a b = true) : a = b := by cases a <;> cases b <;> first | rfl | cases h
theorem zan {a b : Int} (h : caw a b = true) : a = b := by rw [oal, dD, decide_eq_true_eq] at h; exact h
theorem uar {a b : IntKind} (h : keq a b = true) : a = b := by rw [qX, decide_eq_true_eq] at h; exact h
theorem dai {a b : List Nat} (h : cu a b = true) : a = b := by rw [dO, decide_eq_true_eq] at h; exact h
section
variable {g : Nat → Nat}
mutual
theorem zV : ∀ (v w : V), unV g v w = true → ren g v = w
 | .bool b, w, h => by cases w <;> first | (cases h; done) | (rw [ren, uao h])
 | .int k n, w, h => by cases w <;> first | (cases h; done) | (obtain ⟨h1, h2⟩ := mh h; rw [ren, uar h1, zan h2])
 | .str s, w, h => by cases w <;> first | (cases h; done) | (rw [ren, dai h])
 | .nilp, w, h => by cases w <;> first | (cases h; done) | rfl
 | .ptr b o, w, h => by cases w <;> first | (cases h; done) | (obtain ⟨h1, h2⟩ := mh h; rw [ren, Nat.eq_of_beq_eq_true h1, Nat.eq_of_beq_eq_true h2])
 | .nilsl, w, h => by cases w <;> first | (cases h; done) | rfl
 | .sl b o n c, w, h => by
  cases w <;> first | (cases h; done) | skip
  rename_i b' o' n' c'
  obtain ⟨h1, h⟩ := mh h
  obtain ⟨h2, h⟩ := mh h
  obtain ⟨h3, h⟩ := mh h
  rw [ren, Nat.eq_of_beq_eq_true h1, Nat.eq_of_beq_eq_true h2, Nat.eq_of_beq_eq_true h3]
  cases c <;> cases c' <;> first | rfl | (cases h; done) | (rw [Nat.eq_of_beq_eq_true h])
 | .nilmap, w, h => by cases w <;> first | (cases h; done) | rfl
 | .map r, w, h => by cases w <;> first | (cases h; done) | (rw [ren, Nat.eq_of_beq_eq_true h])
 | .func f a b, w, h => by
  cases w <;> first | (cases h; done) | skip
  rename_i f' a' b'
  obtain ⟨h1, h⟩ := mh h
  obtain ⟨h2, h3⟩ := mh h
  have h2 : unL g a a' = true := h2
  have h3 : unL g b b' = true := h3
  rw [ren, dJ a a' h2, dJ b b' h3]
  cases f <;> first | (cases h1; done) | skip
  cases f' <;> first | (cases h1; done) | skip
  rw [show dal g (.func _) = .func _ from rfl, Nat.eq_of_beq_eq_true h1]
 | .nilfunc, w, h => by cases w <;> first | (cases h; done) | rfl
 | .iface t v, w, h => by
  cases w <;> first | (cases h; done) | skip
  obtain ⟨h1, h2⟩ := mh h
  rw [ren, Nat.eq_of_beq_eq_true h1, zV v _ h2]
 | .nilif, w, h => by cases w <;> first | (cases h; done) | rfl
 | .agg l, w, h => by
  cases w <;> first | (cases h; done) | skip
  have h : unL g l _ = true := h
  rw [ren, dJ l _ h]
 | .tup l, w, h => by
  cases w <;> first | (cases h; done) | skip
  have h : unL g l _ = true := h
  rw [ren, dJ l _ h]
 | .bad, w, h => by cases h
theorem dJ : ∀ (l m : List V), unL g l m = true → aJ g l = m
 | [], [], _ => rfl
 | [], w :: m, h => by cases h
 | v :: l, [], h => by cases h
 | v :: l, w :: m, h => by
  have h : zx (unV g v w) (unL g l m) = true := h
  obtain ⟨h1, h2⟩ := mh h
  rw [aJ, zV v w h1, dJ l m h2]
end
theorem mab : ∀ (l m : List (V × V × Nat)), tap g l m = true → lJ g l = m
 | [], [], _ => rfl
 | [], _ :: _, h => by cases h
 | _ :: _, [], h => by cases h
 | (k, v, b) :: l, (k', v', b') :: m, h => by
  rw [tap] at h
  obtain ⟨h1, h⟩ := mh h
  obtain ⟨h2, h⟩ := mh h
  obtain ⟨h3, h4⟩ := mh h
  rw [lJ, zV _ _ h1, zV _ _ h2, Nat.eq_of_beq_eq_true h3, mab l m h4]
end
theorem dav {b : Bool} (h : (!b) = true) : b = false := by cases b; rfl; cases h
theorem hau {N : Nat} {g : Nat → Nat} {o a : Ob} (hr : baJ N o = true) (h : oaI g o a = true) : dau N g o a := by
 cases o <;> first | (cases hr; done) | skip
 ·rename_i xs e opn ro flo fhi mk
  cases a <;> first | (cases h; done) | skip
  obtain ⟨h1, h⟩ := mh h
  obtain ⟨h2, h3⟩ := mh h
  have hr : (ro && okL N xs) = true := hr
  rw [Bool.and_eq_true] at hr
  obtain ⟨hr1, hr2⟩ := hr
  rw [hr1, ← dJ _ _ h1, ← Nat.eq_of_beq_eq_true h2, ← uao h3]
  exact .cells _ _ _ _ _ _ _ _ _ _ hr2
 ·rename_i es c ro
  cases a <;> first | (cases h; done) | skip
  obtain ⟨h1, h2⟩ := mh h
  have hr : (ro && vZ N es) = true := hr
  rw [Bool.and_eq_true] at hr
  obtain ⟨hr1, hr2⟩ := hr
  rw [hr1, ← mab _ _ h1, ← Nat.eq_of_beq_eq_true h2]
  exact .map _ _ _ hr2
theorem san {N : Nat} {o : Ob} (h : xO N o = true) : xah N o := by
 cases o <;> first | (cases h; done) | skip
 ·rename_i xs e opn ro flo fhi mk
  have h : (!ro && okL N xs) = true := h
  rw [Bool.and_eq_true] at h
  rw [dav h.1]
  exact .cells _ _ _ _ _ _ h.2
 ·rename_i es c ro
  have h : (!ro && vZ N es) = true := h
  rw [Bool.and_eq_true] at h
  rw [dav h.1]
  exact .map _ _ h.2
theorem rap {N : Nat} {g : Nat → Nat} {o a : Ob} (hn : xO N o = true) (h : sap g o a = true) : a = uI g o := by
 cases o <;> first | (cases hn; done) | skip
 ·rename_i xs e opn ro flo fhi mk
  cases a <;> first | (cases h; done) | skip
  obtain ⟨h1, h⟩ := mh h
  obtain ⟨h2, h⟩ := mh h
  obtain ⟨h3, h⟩ := mh h
  obtain ⟨h4, h⟩ := mh h
  obtain ⟨h5, h⟩ := mh h
  obtain ⟨h6, h7⟩ := mh h
  have hn : (!ro && okL N xs) = true := hn
  rw [Bool.and_eq_true] at hn
  rw [uI, dJ _ _ h1, Nat.eq_of_beq_eq_true h2, uao h3, uao h4, Nat.eq_of_beq_eq_true h5, Nat.eq_of_beq_eq_true h6, uao h7, dav hn.1]
 ·rename_i es c ro
  cases a <;> first | (cases h; done) | skip
  obtain ⟨h1, h⟩ := mh h
  obtain ⟨h2, h3⟩ := mh h
  have hn : (!ro && vZ N es) = true := hn
  rw [Bool.and_eq_true] at hn
  rw [uI, mab _ _ h1, Nat.eq_of_beq_eq_true h2, uao h3, dav hn.1]
theorem wS {N : Nat} : ∀ (l : List (Option Ob)) (c : Nat) (o : Ob), cab N l = true → bg l c = some (some o) → baJ N o = true
 | [], c, o, _, h => by cases h
 | none :: l, 0, o, _, h => by cases h
 | none :: l, c + 1, o, ha, h => wS l c o ha h
 | some p :: l, 0, o, ha, h => by
  rw [cab, Bool.and_eq_true] at ha
  cases h; exact ha.1
 | some p :: l, c + 1, o, ha, h => by
  rw [cab, Bool.and_eq_true] at ha
  exact wS l c o ha.2 h
theorem aZ {N : Nat} : ∀ (l : List Ob) (c : Nat) (o : Ob), bZ N l = true → bg l c = some o → xO N o = true
 | [], c, o, _, h => by cases h
 | p :: l, 0, o, ha, h => by
  rw [bZ, Bool.and_eq_true] at ha
  cases h; exact ha.1
 | p :: l, c + 1, o, ha, h => by
  rw [bZ, Bool.and_eq_true] at ha
  exact aZ l c o ha.2 h
theorem kS {g : Nat → Nat} {h : H} : ∀ (l : List (Option Ob)) (i c : Nat) (o : Ob), taa g h l i = true → bg l c = some (some o) → ∃ a, h.get (g (i + c)) = some a ∧ oaI g o a = true
 | [], i, c, o, _, hl => by cases hl
 | none :: l, i, 0, o, _, hl => by cases hl
 | none :: l, i, c + 1, o, hk, hl => by
  have := kS l (i + 1) c o hk hl
  rwa [show i + (c + 1) = i + 1 + c from by omega]
 | some p :: l, i, c, o, hk, hl => by
  rw [taa] at hk
  split at hk
  ·rename_i a ha
   obtain ⟨h1, h2⟩ := mh hk
   cases c with
   | zero => cases hl; exact ⟨a, ha, h1⟩
   | succ c =>
    have := kS l (i + 1) c o h2 hl
    rwa [show i + (c + 1) = i + 1 + c from by omega]
  ·cases hk
theorem nY {g : Nat → Nat} {h : H} : ∀ (l : List Ob) (i c : Nat) (o : Ob), fad g h l i = true → bg l c = some o → ∃ a, h.get (g (i + c)) = some a ∧ sap g o a = true
 | [], i, c, o, _, hl => by cases hl
 | p :: l, i, c, o, hk, hl => by
  rw [fad] at hk
  split at hk
  ·rename_i a ha
   obtain ⟨h1, h2⟩ := mh hk
   cases c with
   | zero => cases hl; exact ⟨a, ha, h1⟩
   | succ c =>
    have := nY l (i + 1) c o h2 hl
    rwa [show i + (c + 1) = i + 1 + c from by omega]
  ·cases hk
theorem jR : ∀ (n : Nat) (s : List Nat) (i c : Nat), aaa n s i = true → c < n → bg s c = some (i + c)
 | 0, s, i, c, _, h => by omega
 | n + 1, [], i, c, h, _ => by cases h
 | n + 1, b :: l, i, c, h, hc => by
  rw [aaa] at h
  obtain ⟨h1, h2⟩ := mh h
  cases c with
  | zero => rw [eu, Nat.eq_of_beq_eq_true h1, Nat.add_zero]
  | succ c => rw [yl, jR n l (i + 1) c h2 (by omega), show i + 1 + c = i + (c + 1) from by omega]
theorem saj {s : List Nat} {c b : Nat} (h : bg s c = some b) : gOf s c = b := by unfold gOf; rw [h]
theorem zM : ∀ (l : List Nat) (i j : Nat), bac l = true → i < j → j < l.length → bg l i ≠ bg l j
 | [], i, j, _, _, h => by simp at h
 | b :: l, i, j, hn, hij, hj => by
  rw [bac, bH] at hn
  cases hm : decide (b ∈ l) with
  | true => rw [hm] at hn; cases hn
  | false =>
   rw [hm, cond_false] at hn
   cases j with
   | zero => omega
   | succ j =>
    rw [List.length_cons] at hj
    cases i with
    | zero =>
     rw [eu, yl]
     intro e
     rw [decide_eq_false_iff_not] at hm
     apply hm
     rw [zg] at e
     exact List.mem_of_getElem? e.symm
    | succ i =>
     rw [yl, yl]
     exact zM l i j hn (by omega) (by omega)
theorem baj {ng : Nat} {e : Ent} {args : List V} {h : H} {s : List Nat} (hs : df ng e = true) (hm : gac ng e args h = some s) : cau ng e args h (gOf s) := by
 unfold df at hs
 rw [Bool.and_eq_true, Bool.and_eq_true, Bool.and_eq_true, Bool.and_eq_true] at hs
 obtain ⟨⟨⟨⟨h1, h2⟩, h3⟩, _⟩, _⟩ := hs
 unfold gac at hm
 split at hm
 simp only at hm
 rename_i s0 n0 _
 cases hb : zx (aaa ng (sZ s0 []) 0) (zx (unL (gOf (sZ s0 [])) e.args args) (taa (gOf (sZ s0 [])) h e.hin 0)) with
 | false => rw [hb] at hm; cases hm
 | true =>
  rw [hb] at hm
  cases hm
  obtain ⟨h4, h5⟩ := mh hb
  obtain ⟨h6, h7⟩ := mh h5
  rw [bu, decide_eq_true_eq] at h1
  refine ⟨h1, fun c hc => ?_, h2, dJ _ _ h6, fun c o hc => ?_⟩
  ·rw [saj (jR ng _ 0 c h4 hc), Nat.zero_add]
  ·obtain ⟨a, g1, g2⟩ := kS e.hin 0 c o h7 hc
   rw [Nat.zero_add] at g1
   exact ⟨a, g1, hau (wS _ c o h3 hc) g2⟩
theorem yR {ng : Nat} {e : Ent} (hs : df ng e = true) (f : Nat) (v : V) (h : H) (hg : kg e f v h = true) : f = e.f ∧ ∃ g, vak e v h g := by
 unfold df at hs
 rw [Bool.and_eq_true, Bool.and_eq_true, Bool.and_eq_true, Bool.and_eq_true] at hs
 obtain ⟨⟨_, h1⟩, h2⟩ := hs
 unfold kg at hg
 obtain ⟨h3, hg⟩ := mh hg
 refine ⟨Nat.eq_of_beq_eq_true h3, ?_⟩
 split at hg
 simp only at hg
 rename_i s0 n0 _
 obtain ⟨h4, hg⟩ := mh hg
 obtain ⟨h5, hg⟩ := mh hg
 obtain ⟨h6, hg⟩ := mh hg
 obtain ⟨h7, h8⟩ := mh hg
 have h7 := Nat.eq_of_beq_eq_true h7
 rw [ll, Nat.add_zero] at h7
 have hget : ∀ c, c < e.hin.length + e.hout.length → bg (sZ s0 []) c = some (gOf (sZ s0 []) c) := by
  intro c hc
  cases hl : bg (sZ s0 []) c with
  | none => rw [zg, List.getElem?_eq_none_iff] at hl; omega
  | some b => rw [saj hl]
 refine ⟨gOf (sZ s0 []), fun c hc => ?_, h1, zV _ _ h5, fun j o hj => ?_, fun j j' hj hj' hne he => ?_⟩
 ·rw [saj (jR _ _ 0 c h4 hc), Nat.zero_add]
 ·have hn := aZ _ j o h2 hj
  obtain ⟨a, g1, g2⟩ := nY e.hout _ j o h6 hj
  exact ⟨san hn, by rw [g1, rap hn g2]⟩
 ·rcases Nat.lt_or_gt_of_ne hne with hlt | hlt
  ·exact zM _ (e.hin.length + j) (e.hin.length + j') h8 (by omega) (by omega) (by rw [hget _ (by omega), hget _ (by omega), he])
  ·exact zM _ (e.hin.length + j') (e.hin.length + j) h8 (by omega) (by omega) (by rw [hget _ (by omega), hget _ (by omega), he])
theorem pK (ng : Nat) : ∀ (es : List Ent) (f : Nat), nk es f = false → ∀ args h, ah ng es f args h = none
 | [], _, _, _, _ => rfl
 | e :: es, f, hf, args, h => by
  rw [nk] at hf
  rw [ah]
  cases hb : Nat.beq f e.f with
  | true => rw [hb] at hf; cases hf
  | false => rw [hb] at hf; exact pK ng es f hf args h
end Go.Ev
end
