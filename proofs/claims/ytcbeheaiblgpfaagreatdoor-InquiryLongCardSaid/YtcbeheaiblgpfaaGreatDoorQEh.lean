/- The law InquiryLong: part Eh. -/
import Derived.Test.YtcbeheaiblgpfaaGreatDoorQEa
import Derived.Test.YtcbeheaiblgpfaaGreatDoorQEg
set_option linter.unusedVariables false
set_option linter.unusedSimpArgs false
noncomputable section
namespace Go.Ev
open Go.RowKit (Below)
def fab (P : Program) (E : Env) (O : Orc) (base : Nat) (w0 : World) : Prop :=
 ∀ f args h l, O f args h = some l → ∀ μ w rargs, sG E μ → yg E base w0 μ h w → ae μ args rargs.toList →
  Calls P f rargs w fun e w' => ∃ v h', (v, h') ∈ l ∧ ∃ μ' rv, e = .returned rv ∧ sj μ h.next μ' ∧ yg E base w0 μ' h' w' ∧ ze μ' v rv
structure Cx where
 P : Program
 E : Env
 O : Orc
 base : Nat
 w0 : World
 mu0 : Mu
 n0 : Nat
 CS : List Frame
structure kF (C : Cx) : Prop where
 env : yh C.P C.E
 exts : jF C.P C.E
 orc : fab C.P C.E C.O C.base C.w0
 sP : sG C.E C.mu0
def gZ (C : Cx) (s : S) (m : Machine) : Prop :=
 ∃ μ w fr rcs lo, m = lone fr rcs w ∧ yg C.E C.base C.w0 μ s.h w ∧ sj C.mu0 C.n0 μ ∧ C.n0 ≤ lo ∧ lo ≤ s.h.next ∧ uB C.E μ lo s.h.next s.fr fr ∧ sQ C.E μ C.CS C.n0 lo s.cs rcs
def dx (C : Cx) (o : Out) (m : Machine) : Prop :=
 match o with
 | .next s => ∃ m', Steps C.P m m' ∧ gZ C s m'
 | .alts l => ∃ s ∈ l, ∃ m', Steps C.P m m' ∧ gZ C s m'
 | .done f v h => ∃ μ w fr rv, Steps C.P m (lone fr C.CS w) ∧ fr.fn = f ∧ fr.leaving C.P w (.returned rv) ∧ yg C.E C.base C.w0 μ h w ∧ sj C.mu0 C.n0 μ ∧ ze μ v rv
 | .fail _ => True
theorem dx.of_steps {C : Cx} {o : Out} {m m1 : Machine} (h : Steps C.P m m1) (k : dx C o m1) : dx C o m := by
 cases o with
 | next s => obtain ⟨m', h1, h2⟩ := k; exact ⟨m', h.trans h1, h2⟩
 | alts l => obtain ⟨s, hs, m', h1, h2⟩ := k; exact ⟨s, hs, m', h.trans h1, h2⟩
 | done f v h' => obtain ⟨μ, w, fr, rv, h1, h2⟩ := k; exact ⟨μ, w, fr, rv, h.trans h1, h2⟩
 | fail n => trivial
theorem uw {C : Cx} {of : Option F} {cs : List F} {h : H} {n : Nat} {m : Machine} (k : ∀ f, of = some f → ∃ m', Steps C.P m m' ∧ gZ C ⟨f, cs, h⟩ m') : dx C (dz of cs h n) m := by
 cases of with
 | none => trivial
 | some f => exact k f rfl
theorem qac {C : Cx} {n : Nat} {h : H} {o : Out} {m : Machine} (k : n ≤ h.next → dx C o m) : dx C (pE n h o) m := by
 unfold pE
 rw [bu]
 by_cases hn : n ≤ h.next
 ·simp only [hn, decide_true, cond_true]; exact k hn
 ·simp only [hn, decide_false, cond_false]; trivial
section
variable {E : Env} {μ : Mu} {lo hi : Nat}
theorem uB.run {f : F} {fr : Frame} (k : uB E μ lo hi f fr) (hm : f.mode = .run) : fr.mode = .run ∧ qz E μ lo hi f.tm fr.tmps f.todo fr.todo := by
 have := k.mode
 rw [hm] at this
 generalize hfm : fr.mode = m at this
 cases this with
 | run h => exact ⟨rfl, h⟩
theorem xau {tm : List V} {rtm : Array Value} {v : V} {rv : Value} (h : ae μ tm rtm.toList) (hv : ze μ v rv) (d : Option Nat) : ae μ (zo tm d v) (iR rtm d rv).toList := by
 cases d with
 | none => exact h
 | some d =>
  simp only [zo, iR, Array.toList_setIfInBounds]
  exact raj.set_rel h hv d
theorem zR {f f' : F} {fr : Frame} {v : V} {rv : Value} (k : uB E μ lo hi f fr) (hm : f.mode = .run) (hs : vU f fr) (hv : ze μ v rv) (hf : finish f v = some f') :
  uB E μ lo hi f' (fr.finish rv) ∧ f'.mode = .run := by
 obtain ⟨hrm, ht⟩ := k.run hm
 obtain ⟨fn, tm, todo, defers, mode, kind, rnd⟩ := f
 simp only at hm
 subst hm
 unfold finish at hf
 simp only at hf ht
 split at hf
 ·rename_i all o rest k0
  cases hf
  generalize htd : fr.todo = td at ht
  cases ht with
  | plain _ _ h1 h2 =>
   obtain ⟨b, k', rfl, hi, hk⟩ := h2.cons_inv
   cases hi with
   | reg ops n _ hd =>
   have ho : ops.toList[n]? = some o := by
    have := congrArg (fun l => l[0]?) hd
    simpa using this
   have hrange : List.range' n (o :: rest).length = n :: List.range' (n + 1) rest.length := by simp [List.range'_succ]
   rw [hrange] at htd
   rw [oC htd]
   have hdst : zk ops.toList n = o.dst := by rw [zk, zg, ho]
   rw [hdst]
   refine ⟨⟨k.fn, k.kind, k.rnd, k.defers, ?_⟩, rfl⟩
   rw [hrm]
   refine .run (.plain _ _ (xau h1 hv _) (.cons _ _ _ _ (.reg ops (n + 1) rest ?_) hk))
   have := congrArg List.tail hd
   simpa using this
 ·rename_i all ms pend i c plan k0
  cases hf
  generalize htd : fr.todo = td at ht
  cases ht with
  | plain _ _ h1 h2 =>
   obtain ⟨b, k', rfl, hi, hk⟩ := h2.cons_inv
   cases hi
  | draw ops _ _ dn _ X L' _ k' hms D hk =>
   simp only [vU, htd] at hs
   obtain ⟨rfl, R, rfl⟩ := hs
   rw [oC htd]
   refine ⟨⟨k.fn, k.kind, k.rnd, k.defers, ?_⟩, rfl⟩
   rw [hrm]
   subst hms
   refine .run (.draw ops _ _ (dn ++ [(i, 2)]) plan (X ++ [i]) R _ k' rfl ?_ hk)
   simp only [Nat.beq_refl, cond_true]
   exact D.rar hv
 ·rename_i l k0
  cases hf
  generalize htd : fr.todo = td at ht
  cases ht with
  | plain _ _ h1 h2 =>
   obtain ⟨b, k', rfl, hi, hk⟩ := h2.cons_inv
   cases hi with
   | inRange _ i hi =>
   refine ⟨⟨?_, ?_, ?_, ?_, ?_⟩, rfl⟩ <;> simp only [Frame.finish, htd]
   ·exact k.fn
   ·exact k.kind
   ·exact k.rnd
   ·exact k.defers
   ·rw [hrm]; exact .run (.plain _ _ h1 (.cons _ _ _ _ (.endRange l i hi) hk))
 ·rename_i k0
  cases hf
  generalize htd : fr.todo = td at ht
  cases ht with
  | plain _ _ h1 h2 =>
   obtain ⟨b, k', rfl, hi, hk⟩ := h2.cons_inv
   cases hi with
   | beginRound =>
   refine ⟨⟨?_, ?_, ?_, ?_, ?_⟩, rfl⟩ <;> simp only [Frame.finish, htd]
   ·exact k.fn
   ·exact k.kind
   ·exact k.rnd
   ·exact k.defers
   ·rw [hrm]; exact .run (.plain _ _ h1 hk)
 ·cases hf
theorem tH.append {a b : List (V × Bool)} {a' b' : List PanicEntry} (h : tH μ a a') (k : tH μ b b') : tH μ (gy a b) (a' ++ b') := by
 induction h with
 | nil => exact k
 | cons v r e l l' h1 h2 h3 _ ih => exact .cons _ _ _ _ _ h1 h2 h3 ih
theorem daf {f f' : F} {fr : Frame} {ch : List (V × Bool)} {ch' : List PanicEntry} (k : uB E μ lo hi f fr) (hc : tH μ ch ch') (hf : raise f ch = some f') :
  uB E μ lo hi f' (fr.raise ch') ∧ f'.mode ≠ .run := by
 obtain ⟨fn, tm, todo, defers, mode, kind, rnd⟩ := f
 obtain ⟨rfn, rtm, rtodo, rdefers, rmode, rkind, rrnd⟩ := fr
 obtain ⟨k1, k2, k3, k4, k5⟩ := k
 simp only at k1 k2 k3 k4 k5
 unfold raise at hf
 simp only at hf
 cases k5 with
 | run ht =>
  simp only at hf
  cases hd : vF todo with
  | true => rw [hd] at hf; cases hf
  | false =>
   rw [hd] at hf
   cases hf
   refine ⟨⟨k1, k2, k3, k4, ?_⟩, by simp⟩
   cases ht with
   | plain _ _ h1 h2 => exact .panicking _ _ h1 hc
   | draw => cases hd
 | returning h1 =>
  cases hf
  exact ⟨⟨k1, k2, k3, k4, .panicking _ _ h1 hc⟩, by simp⟩
 | panicking a b h1 h2 =>
  cases hf
  exact ⟨⟨k1, k2, k3, k4, .panicking _ _ h1 (hc.append h2)⟩, by simp⟩
theorem fw.cac {l : List It} {l' : List Item} (h : fw μ l l') : ∀ d b r a k, l' ≠ .call d b r a :: k := by
 intro d b r a k he
 subst he
 cases h with
 | cons _ _ _ _ h1 _ => cases h1
theorem qz.cac {tm : List V} {rtm : Array Value} {l : List It} {l' : List Item} (h : qz E μ lo hi tm rtm l l') : ∀ d b r a k, l' ≠ .call d b r a :: k := by
 cases h with
 | plain _ _ h1 h2 => exact h2.cac
 | draw => intro d b r a k he; cases he
theorem pU : ∀ n : Nat, ae μ (rJ n [qg] []) (Array.replicate n undef).toList := by
 intro n
 have := tq (μ := μ) (.cons _ _ _ _ (dA μ) .nil) n
 rw [Array.toList_replicate]
 have he : (List.replicate n [undef]).flatten = List.replicate n undef := by
  induction n with
  | zero => rfl
  | succ n ih => rw [List.replicate_succ, List.flatten_cons, ih (tq (.cons _ _ _ _ (dA μ) .nil) n)]; rfl
 rwa [he] at this
theorem bQ {P : Program} (K : yh P E) {f : Nat} {args : List V} {rargs : Array Value} {kind : CallKind} {f' : F} {n : Nat} (ha : ae μ args rargs.toList) (he : eB E f args kind = some f') :
  uB E μ n n f' (Frame.enter P f rargs kind) ∧ f'.mode = .run ∧ f'.kind = kind := by
 unfold eB at he
 split at he
 ·rename_i fn hfn
  obtain ⟨h1, h2, h3⟩ := K.fn f fn hfn
  split at he
  ·rename_i b hb
   cases he
   refine ⟨⟨rfl, rfl, .none, .nil, ?_⟩, rfl, rfl⟩
   simp only [Frame.enter, h1, Option.map_some, Option.getD_some, Option.bind_some, hb]
   refine .run (.plain _ _ ?_ (.cons _ _ _ _ (.code b) .nil))
   rw [Array.toList_append]
   refine ha.append ?_
   have hl : av args 0 = rargs.size := by rw [ll, ha.length]; simp
   rw [hl]
   exact pU _
  ·cases he
 ·cases he
end
section
variable {C : Cx} {μ : Mu} {w : World} {h : H} {f : F} {fr : Frame} {cs : List F} {rcs : List Frame} {lo : Nat}
structure At (C : Cx) (μ : Mu) (w : World) (h : H) (f : F) (fr : Frame) (cs : List F) (rcs : List Frame) (lo : Nat) : Prop where
 wrel : yg C.E C.base C.w0 μ h w
 ext : sj C.mu0 C.n0 μ
 n0 : C.n0 ≤ lo
 hlo : lo ≤ h.next
 hfr : uB C.E μ lo h.next f fr
 hcs : sQ C.E μ C.CS C.n0 lo cs rcs
theorem At.wQ (k : At C μ w h f fr cs rcs lo) : gZ C ⟨f, cs, h⟩ (lone fr rcs w) := ⟨μ, w, fr, rcs, lo, rfl, k.wrel, k.ext, k.n0, k.hlo, k.hfr, k.hcs⟩
theorem At.sP (K : kF C) (k : At C μ w h f fr cs rcs lo) : sG C.E μ := K.sP.mono k.ext.ext
theorem At.grow {μ' : Mu} {w' : World} {h' : H} (k : At C μ w h f fr cs rcs lo) (hx : sj μ h.next μ') (hw : yg C.E C.base C.w0 μ' h' w') (hn : h.next ≤ h'.next) : At C μ' w' h' f fr cs rcs lo :=
 ⟨hw, ⟨k.ext.ext.trans hx.ext, fun b hb h0 => hx.keep b (by have := k.n0; have := k.hlo; omega) (k.ext.keep b hb h0)⟩, k.n0, Nat.le_trans k.hlo hn, k.hfr.mono hx (Nat.le_refl _) hn, k.hcs.mono (hx.le k.hlo) (Nat.le_refl _)⟩
theorem At.same {h' : H} {w' : World} (k : At C μ w h f fr cs rcs lo) (hw : yg C.E C.base C.w0 μ h' w') (hn : h.next ≤ h'.next) : At C μ w' h' f fr cs rcs lo :=
 k.grow (sj.refl _ _) hw hn
theorem At.finish {v : V} {rv : Value} {f' : F} (k : At C μ w h f fr cs rcs lo) (hm : f.mode = .run) (hs : vU f fr) (hv : ze μ v rv) (hf : finish f v = some f') : At C μ w h f' (fr.finish rv) cs rcs lo :=
 ⟨k.wrel, k.ext, k.n0, k.hlo, (zR k.hfr hm hs hv hf).1, k.hcs⟩
theorem bam {n : Nat} {l : List (V × H)} {m : Machine} {v : V} {h' : H} (hin : (v, h') ∈ l) (hk : ∀ f', finish f v = some f' → n ≤ h'.next → ∃ m', Steps C.P m m' ∧ gZ C ⟨f', cs, h'⟩ m') :
  dx C (gU f cs n l) m := by
 unfold gU
 cases ha : jM f cs n l with
 | none => trivial
 | some r =>
  obtain ⟨s, hs, m', h1⟩ := go l r hin ha
  exact ⟨s, hs, m', h1⟩
 where
 go : ∀ (l : List (V × H)) (r : List S), (v, h') ∈ l → jM f cs n l = some r → ∃ s ∈ r, ∃ m', Steps C.P m m' ∧ gZ C s m'
  | (x, y) :: l, r, hin, ha => by
   unfold jM at ha
   cases hf : Ev.finish f x with
   | none => rw [hf] at ha; cases ha
   | some f' =>
    cases hr : jM f cs n l with
    | none => rw [hf, hr] at ha; cases ha
    | some r' =>
     rw [hf, hr] at ha
     simp only at ha
     obtain ⟨h1, h2⟩ := si ha
     cases h2
     rcases List.mem_cons.1 hin with he | hin
     ·cases he
      obtain ⟨m', hm⟩ := hk f' hf (by simpa [bu] using h1)
      exact ⟨_, List.mem_cons_self .., m', hm⟩
     ·obtain ⟨s, hs, m', hm⟩ := go l r' hin hr
      exact ⟨s, List.mem_cons_of_mem _ hs, m', hm⟩
theorem aab (K : kF C) (k : At C μ w h f fr cs rcs lo) (hm : f.mode = .run) (hsu : vU f fr) {r : Res} {s : Sem Next} {fz : Frame} {wz : World}
  (hstep : (stepG C.P true (gor fz rcs) wz).bare = (stepG.apply C.P true fr rcs none s w).bare) (hg : Got C.E C.base C.w0 μ h r (s.run C.P w)) :
  dx C (gq C.E C.O f cs r h) (lone fz rcs wz) := by
 obtain ⟨hrm, htodo⟩ := k.hfr.run hm
 have hcall : ∀ d r a l, fr.todo ≠ .call d true r a :: l := fun d r a l => htodo.cac d true r a l
 cases r with
 | val v h' =>
  obtain ⟨μ', rv, w', hr, hx, hw, hv⟩ := hg
  refine qac fun hn => uw fun f' hf => ?_
  exact ⟨_, Steps.one (step_lone_go (hstep.trans (cK hr))), ((k.grow hx hw hn).finish hm hsu hv hf).wQ⟩
 | skip h' =>
  obtain ⟨w', hr, hw⟩ := hg
  refine qac fun hn => uw fun f' hf => ?_
  exact ⟨_, Steps.one (step_lone_go (hstep.trans (zY hr))), ((k.same hw hn).finish hm hsu (dA _) hf).wQ⟩
 | enter g args =>
  obtain ⟨rargs, w', hr, hw, ha⟩ := hg
  have k' := k.same hw (Nat.le_refl _)
  have h1 : step C.P (lone fz rcs wz) = .next (lone (Frame.enter C.P g rargs .normal) (fr :: rcs) w') := step_lone_go (hstep.trans (gah hr hcall))
  simp only [gq]
  cases ho : C.O g args h with
  | some l =>
   obtain ⟨e, w2, fr2, ⟨v, h2, hin, μ2, rv, rfl, hx, hw2, hv⟩, hcomes, hfn, hleave⟩ := K.orc g args h l ho μ w' rargs (k.sP K) hw ha (fr :: rcs)
   refine bam hin fun f' hf hn => ?_
   exact ⟨_, .head h1 (Steps.trans hcomes (.one (step_leave_returned hleave))), ((k'.grow hx hw2 hn).finish hm hsu hv hf).wQ⟩
  | none =>
   refine uw fun f' hf => ?_
   obtain ⟨g1, g2, g3⟩ := bQ K.env (n := h.next) ha hf
   refine ⟨_, .one h1, μ, w', _, _, h.next, rfl, hw, k'.ext, Nat.le_trans k.n0 k.hlo, Nat.le_refl _, g1, ?_⟩
   exact .cons h.next lo f fr cs rcs k'.n0 k'.hlo k'.hfr (fun _ => hsu) k'.hcs
 | defer d =>
  obtain ⟨d', w', hr, hw, hdr⟩ := hg
  simp only [gq]
  unfold yac
  split
  case h_2 l hl => trivial
  refine uw fun f' hf => ?_
  have k' := k.same hw (Nat.le_refl _)
  have k2 : At C μ w' h { f with defers := d :: f.defers } { fr with defers := d' :: fr.defers } cs rcs lo :=
   ⟨k'.wrel, k'.ext, k'.n0, k'.hlo, ⟨k'.hfr.fn, k'.hfr.kind, k'.hfr.rnd, .cons _ _ _ _ hdr k'.hfr.defers, k'.hfr.mode⟩, k'.hcs⟩
  exact ⟨_, Steps.one (step_lone_go (hstep.trans (iah hr))), (k2.finish hm hsu (dA _) hf).wQ⟩
 | recover =>
  obtain ⟨w', hr, hw⟩ := hg
  have k' := k.same hw (Nat.le_refl _)
  simp only [gq, nO]
  split
  ·trivial
  ·rename_i hrnd
   have hrr : fr.roundOf = none := by
    have := k.hfr.rnd
    rw [hrnd] at this
    generalize fr.roundOf = x at this
    cases this; rfl
   have hs1 := hstep.trans (l7 hr hrr)
   have hkind := k.hfr.kind
   split
   ·rename_i hn
    have : tryRecover fr rcs = none := by
     rw [hn] at hkind
     unfold tryRecover; rw [← hkind]
    rw [this] at hs1
    refine uw fun f' hf => ⟨_, .one (step_lone_go hs1), (k'.finish hm hsu .nilif hf).wQ⟩
   ·rename_i hn
    rw [hn] at hkind
    split
    ·rename_i c rest
     have hcs := k'.hcs
     generalize hrcs : rcs = rr at hcs
     cases hcs with
     | cons _ lo2 _ rc _ rrest q0 q1 q2 q3 q4 =>
     subst hrcs
     have htry : tryRecover fr (rc :: rrest) = (match rc.mode with
       | .panicking ({ v, recovered := false, goexit := false } :: older) => some (v, { rc with mode := .panicking ({ v, recovered := true } :: older) } :: rrest)
       | _ => none) := by
      simp only [tryRecover, ← hkind]
      rfl
     rw [htry] at hs1
     split
     ·rename_i v older hcm
      have hmd := q2.mode
      rw [hcm] at hmd
      generalize hrcm : rc.mode = rm at hmd
      cases hmd with
      | panicking _ ch' p1 p2 =>
      cases p2 with
      | cons _ _ e _ l' e1 e2 e3 e4 =>
      rw [hrcm] at hs1
      obtain ⟨ev', er, eg⟩ := e
      simp only at e1 e2 e3
      subst e2 e3
      simp only at hs1
      refine uw fun f' hf => ?_
      refine ⟨_, .one (step_lone_go hs1), μ, w', _, _, lo, rfl, hw, k'.ext, k'.n0, k'.hlo, (zR k'.hfr hm hsu e1 hf).1, ?_⟩
      exact .cons lo lo2 _ _ rest rrest q0 q1 ⟨q2.fn, q2.kind, q2.rnd, q2.defers, .panicking _ _ p1 (.cons _ _ _ _ _ e1 rfl rfl e4)⟩ (fun hc => by cases hc) q4
     ·rename_i hno
      have hnone : (match rc.mode with
       | .panicking ({ v, recovered := false, goexit := false } :: older) => some (v, { rc with mode := .panicking ({ v, recovered := true } :: older) } :: rrest)
       | _ => none) = none := by
       split
       ·rename_i v' older' hrcm
        have hmd := q2.mode
        rw [hrcm] at hmd
        generalize hcm : c.mode = cm at hmd
        cases hmd with
        | panicking ch _ p1 p2 =>
        cases p2 with
        | cons v r _ l _ e1 e2 e3 e4 =>
        simp only at e2
        subst e2
        exact absurd hcm (hno v l)
       ·rfl
      rw [hnone] at hs1
      refine uw fun f' hf => ⟨_, .one (step_lone_go hs1), (k'.finish hm hsu .nilif hf).wQ⟩
    ·trivial
   ·trivial
 | panic v h' =>
  obtain ⟨rv, w', hr, hw, hv⟩ := hg
  refine qac fun hn => uw fun f' hf => ?_
  have k' := k.same hw hn
  obtain ⟨g1, _⟩ := daf k'.hfr (ch' := [{ v := rv, recovered := false }]) (.cons _ _ _ _ _ hv rfl rfl .nil) hf
  exact ⟨_, .one (step_lone_go (hstep.trans (fah hr))), (⟨k'.wrel, k'.ext, k'.n0, k'.hlo, g1, k'.hcs⟩ : At C μ w' h' f' _ cs rcs lo).wQ⟩
 | round l g tm a b =>
  obtain ⟨i, rtm, w', hr, hw, hl, ht⟩ := hg
  have k' := k.same hw (Nat.le_refl _)
  refine ⟨_, .one (step_lone_go (hstep.trans (eah hr hcall))), μ, w', _, _, h.next, rfl, hw, k'.ext, Nat.le_trans k.n0 k.hlo, Nat.le_refl _, ?_, ?_⟩
  ·refine ⟨rfl, rfl, .some l i hl, .nil, .run (.plain _ _ ht ?_)⟩
   exact .cons _ _ _ _ (.code a) (.cons _ _ _ _ .beginRound (.cons _ _ _ _ (.code b) .nil))
  ·exact .cons h.next lo f fr cs rcs k'.n0 k'.hlo k'.hfr (fun _ => hsu) k'.hcs
 | alts l =>
  obtain ⟨v, h', hin, μ', rv, w', hr, hx, hw, hv⟩ := hg
  refine bam hin fun f' hf hn => ?_
  exact ⟨_, Steps.one (step_lone_go (hstep.trans (cK hr))), ((k.grow hx hw hn).finish hm hsu hv hf).wQ⟩
 | fail n => trivial
end
end Go.Ev
end
noncomputable section
namespace Go.Ev
open Go.RowKit (Below)
section
variable {μ : Mu}
theorem las {id : Nat} {l : List It} {l' : List Item} (h : fw μ l l') : (∀ k, uE id l = some k → ∃ k', exitTo id l' = some k' ∧ fw μ k k') ∧ (uE id l = none → exitTo id l' = none) := by
 induction h with
 | nil => exact ⟨fun k hk => (by cases hk), fun _ => rfl⟩
 | cons a b l l' h1 h2 ih =>
  cases h1 with
  | inBlock j =>
   simp only [uE, exitTo, fq]
   by_cases hj : j = id
   ·simp only [hj, decide_true, cond_true, beq_self_eq_true, if_true]
    exact ⟨fun k hk => by cases hk; exact ⟨l', rfl, h2⟩, fun h => by cases h⟩
   ·have : (j == id) = false := by simpa using hj
    simp only [hj, decide_false, cond_false, this, Bool.false_eq_true, if_false]
    exact ih
  | _ => exact ih
theorem eas {g : Nat} {l : List It} {l' : List Item} (h : fw μ l l') : (∀ k, rP g l = some k → ∃ k', gotoIn g l' = some k' ∧ fw μ k k') ∧ (rP g l = none → gotoIn g l' = none) := by
 induction h with
 | nil => exact ⟨fun k hk => (by cases hk), fun _ => rfl⟩
 | cons a b l l' h1 h2 ih =>
  cases h1 with
  | inScope body =>
   simp only [rP, gotoIn]
   cases hf : findLabel body g with
   | some rest =>
    simp only
    exact ⟨fun k hk => by cases hk; exact ⟨_, rfl, .cons _ _ _ _ (.code rest) (.cons _ _ _ _ (.inScope body) h2)⟩, fun h => by cases h⟩
   | none => simp only; exact ih
  | _ => exact ih
end
section
variable {C : Cx} {μ : Mu} {w : World} {h : H} {f : F} {fr : Frame} {cs : List F} {rcs : List Frame} {lo : Nat}
theorem At.item (k : At C μ w h f fr cs rcs lo) (hm : f.mode = .run) {it : It} {k0 : List It} (ht : f.todo = it :: k0) (hd : vF f.todo = false) :
  ∃ b k', fr.mode = .run ∧ fr.todo = b :: k' ∧ iF μ it b ∧ fw μ k0 k' ∧ ae μ f.tm fr.tmps.toList := by
 obtain ⟨hrm, htd⟩ := k.hfr.run hm
 rw [ht] at htd hd
 generalize hx : fr.todo = td at htd
 cases htd with
 | plain _ _ h1 h2 =>
  obtain ⟨b, k', rfl, h3, h4⟩ := h2.cons_inv
  exact ⟨b, k', hrm, rfl, h3, h4, h1⟩
 | draw => cases hd
theorem At.turn {f' : F} {fr' : Frame} (k : At C μ w h f fr cs rcs lo) (hf : uB C.E μ lo h.next f' fr') : At C μ w h f' fr' cs rcs lo := ⟨k.wrel, k.ext, k.n0, k.hlo, hf, k.hcs⟩
theorem xu (k : At C μ w h f fr cs rcs lo) (hm : f.mode = .run) (hrm : fr.mode = .run) {td : List It} {td' : List Item} (hs : stepG C.P true (gor fr rcs) w = .go (gor { fr with todo := td' } rcs) w)
  (hv : ae μ f.tm fr.tmps.toList) (hr : fw μ td td') : dx C (vw f td cs h) (lone fr rcs w) := by
 refine ⟨_, .one (step_lone_go (by rw [hs]; rfl)), (k.turn (f' := { f with todo := td }) (fr' := { fr with todo := td' }) ⟨k.hfr.fn, k.hfr.kind, k.hfr.rnd, k.hfr.defers, ?_⟩).wQ⟩
 simp only [hm, hrm]
 exact .run (.plain _ _ hv hr)
theorem jS {l : List (V × Bool)} {l' : List PanicEntry} (h : tH μ l l') : l'.dropWhile (fun e => !e.goexit) = [] := by
 induction h with
 | nil => rfl
 | cons v r e l l' h1 h2 h3 _ ih => simp [List.dropWhile, h3, ih]
theorem tT {w' : World} {h' : H} {v : V} {rv : Value} {c : F} {rest : List F} {m : Machine} (hw : yg C.E C.base C.w0 μ h' w') (hx : sj C.mu0 C.n0 μ) (hlo : lo ≤ h'.next) (hk : f.kind = fr.kind)
  (hcs : sQ C.E μ C.CS C.n0 lo (c :: rest) rcs) (hv : ze μ v rv) (hm : m = lone fr rcs w) (hs : (stepG C.P true (gor fr rcs) w).bare = (doReturn C.P true fr rcs none rv w').bare) :
  dx C (bz f (c :: rest) v h') m := by
 subst hm
 generalize hrcs : rcs = rr at hcs
 cases hcs with
 | cons _ lo2 _ rc _ rrest q0 q1 q2 q3 q4 =>
 subst hrcs
 have q2' : uB C.E μ lo2 h'.next c rc := q2.mono (sj.refl _ _) (Nat.le_refl _) hlo
 unfold bz
 simp only
 split
 ·rename_i hkn
  rw [hkn] at hk
  split
  ·rename_i hcm
   refine uw fun f' hf => ?_
   have hs1 : (stepG C.P true (gor fr (rc :: rrest)) w).bare = .go (gor (rc.finish rv) rrest) w' := by
    rw [hs]; simp only [doReturn, ← hk, GStep.bare_go]
   exact ⟨_, .one (step_lone_go hs1), μ, w', _, _, lo2, rfl, hw, hx, q0, Nat.le_trans q1 hlo, (zR q2' hcm (q3 hcm) hv hf).1, q4⟩
  ·trivial
 ·rename_i hkn
  rw [hkn] at hk
  split
  ·rename_i a older hcm
   have hmd := q2'.mode
   rw [hcm] at hmd
   generalize hrcm : rc.mode = rm at hmd
   cases hmd with
   | panicking _ ch' p1 p2 =>
   cases p2 with
   | cons _ _ e _ l' e1 e2 e3 e4 =>
   have hs1 : (stepG C.P true (gor fr (rc :: rrest)) w).bare = .go (gor { rc with mode := .returning } rrest) w' := by
    rw [hs]
    obtain ⟨ev', er, eg⟩ := e
    simp only at e2 e3
    subst e2 e3
    simp only [doReturn, ← hk, hrcm, jS e4, GStep.bare_go]
   exact ⟨_, .one (step_lone_go hs1), μ, w', _, _, lo2, rfl, hw, hx, q0, Nat.le_trans q1 hlo, ⟨q2'.fn, q2'.kind, q2'.rnd, q2'.defers, .returning p1⟩, q4⟩
  ·rename_i hno
   have hs1 : (stepG C.P true (gor fr (rc :: rrest)) w).bare = .go (gor rc rrest) w' := by
    rw [hs]
    simp only [doReturn, ← hk]
    split
    ·rename_i older hrcm
     have hmd := q2'.mode
     rw [hrcm] at hmd
     generalize hcm : c.mode = cm at hmd
     cases hmd with
     | panicking ch _ p1 p2 =>
     cases p2 with
     | cons v r _ l _ e1 e2 e3 e4 =>
     simp only at e2
     subst e2
     exact absurd hcm (hno v l)
    ·rfl
   exact ⟨_, .one (step_lone_go hs1), μ, w', _, _, lo2, rfl, hw, hx, q0, Nat.le_trans q1 hlo, q2', q4⟩
 ·trivial
theorem yg.cal {E : Env} {base : Nat} {w0 : World} (k : yg E base w0 μ h w) {b : Nat} {i : Info} {o p : Ob} {o' p' : Obj} (hb : μ b = some i) (hro : i.ro = false) (hg : h.get b = some o) (hd : o ≠ .dead) (ho : w.heap[i.r]? = some o')
  (hp : su E μ i p p') : yg E base w0 μ (h.put b p) { w with heap := w.heap.setIfInBounds i.r p' } := by
 have hlt : i.r < w.heap.size := k.lt b i hb
 refine k.turn b i o p p' _ hb hro hg hd ?_ ?_ hp (by simp) ⟨rfl, rfl, rfl⟩
 ·intro r hr; simp [Array.getElem?_setIfInBounds, Ne.symm hr]
 ·simp [Array.getElem?_setIfInBounds, hlt]
theorem eP (K : kF C) (k : At C μ w h f fr cs rcs lo) (hm : f.mode = .run) (hrm : fr.mode = .run) (hv : ae μ f.tm fr.tmps.toList) {jump : Option Code}
  (hs : stepG C.P true (gor fr rcs) w = (match fr.roundOf with
   | none => if jump matches none | some .ret then .go (gor { fr with mode := .returning } rcs) w else .ended (.stuck "exit, goto: no such block or label" (fr.pos C.P)) w
   | some l =>
    let (r, es) := (Instr.endRound l jump).runT C.P w #[]
    GStep.after (seen C.P fr.fn es) <| match r with
    | .ok v w => doReturn C.P true fr rcs none v w
    | .halt _ w => .ended (.stuck "range over a function: no such loop" (fr.pos C.P)) w)) :
  dx C (fI f cs h jump) (lone fr rcs w) := by
 have hrnd := k.hfr.rnd
 have hret : ∀ (hs' : stepG C.P true (gor fr rcs) w = .go (gor { fr with mode := .returning } rcs) w), dx C (.next ⟨{ f with mode := .returning }, cs, h⟩) (lone fr rcs w) := by
  intro hs'
  exact ⟨_, .one (step_lone_go (by rw [hs']; rfl)), (k.turn (f' := { f with mode := .returning }) (fr' := { fr with mode := .returning }) ⟨k.hfr.fn, k.hfr.kind, k.hfr.rnd, k.hfr.defers, .returning hv⟩).wQ⟩
 unfold fI
 cases hfr : f.rnd with
 | none =>
  rw [hfr] at hrnd
  generalize hro : fr.roundOf = ro at hrnd
  cases hrnd
  simp only
  split
  ·have := hret (by rw [hs]; simp [hro]); rw [hfr] at this; exact this
  ·have := hret (by rw [hs]; simp [hro]); rw [hfr] at this; exact this
  ·trivial
 | some l =>
  rw [hfr] at hrnd
  generalize hro : fr.roundOf = ro at hrnd
  cases hrnd with
  | some _ i hi =>
  rw [hro] at hs
  simp only at hs ⊢
  split
  ·rename_i r hg
   obtain ⟨l', g1, g2, g3, g4⟩ := k.wrel.loop hi hg
   have hgo := uj (P := C.P) g1 (fun _ _ _ hc => by cases hc)
   split
   ·rename_i c rest
    have hrun : (Instr.endRound i.r jump).run C.P w = .ok (.bool jump.isNone) { w with heap := w.heap.setIfInBounds i.r (.loop { l' with state := if jump.isNone then .ready else .done, pending := jump }) } := by
     simp only [Instr.endRound, Instr.getLoop, Sem.run_bind, hgo, Result.andThen_ok, Sem.run_pure, wm (P := C.P) g1 (fun _ _ _ hc => by cases hc)]
    refine tT (w := w) (fr := fr) (rcs := rcs) ?_ k.ext (by rw [H.iE]; exact k.hlo) k.hfr.kind k.hcs (.bool jump.isNone) rfl ?_ (lo := lo)
     (w' := { w with heap := w.heap.setIfInBounds i.r (.loop { l' with state := if jump.isNone then .ready else .done, pending := jump }) })
    ·refine yg.cal k.wrel hi g4 hg (by simp) g1 (.loop _ _ g3 g4 ⟨?_, rfl, g2.fn, g2.tmps, g2.params, g2.assign, g2.body, g2.defers⟩)
     rfl
    ·rw [hs]
     simp only [Sem.runT_eq, hrun, GStep.bare_after]
   ·trivial
  ·trivial
theorem man {l : List V} {a : Array Value} (hl : ae μ l a.toList) : ze μ (oneOf l) (if h : a.size = 1 then a[0] else .tuple a) := by
 obtain ⟨rl⟩ := a
 simp only at hl
 cases hl with
 | nil => exact .tup _ _ .nil
 | cons v v' l l' h1 h2 =>
  cases h2 with
  | nil => simpa [oneOf] using h1
  | cons w w' k k' h3 h4 =>
   simp only [oneOf]
   rw [dif_neg (by simp)]
   exact .tup _ _ (.cons _ _ _ _ h1 (.cons _ _ _ _ h3 h4))
theorem rM {P : Program} {E : Env} {base : Nat} {w0 : World} (K : yh P E) (k : yg E base w0 μ h w) {tm : List V} {rtm : Array Value} (hv : ae μ tm rtm.toList) :
  ∀ (l : List ResultVar) (vs : List V), cz E tm h l = some vs →
  ∃ rvs, (l.mapM fun (x : ResultVar) => match x with
  | .tmp t => (pure (rtm.getD t undef) : Sem Value)
  | .cell a t => do loadVar t (← asAddr (rtm.getD a undef))).run P w = .ok rvs w ∧ ae μ vs rvs
 | [], vs, h => by cases h; exact ⟨[], rfl, .nil⟩
 | .tmp t :: l, vs, h => by
  simp only [cz] at h
  split at h
  ·rename_i r hr
   cases h
   obtain ⟨rvs, h1, h2⟩ := rM K k hv l r hr
   refine ⟨rtm.getD t undef :: rvs, ?_, .cons _ _ _ _ (lH (by simpa using hv.length) (hv.atT t)) h2⟩
   simp only [List.mapM_cons, Sem.run_bind, Sem.run_pure, Result.andThen_ok, h1]
  ·cases h
 | .cell a t :: l, vs, h => by
  simp only [cz] at h
  split at h
  ·rename_i v r hv' hr
   cases h
   obtain ⟨rvs, h1, h2⟩ := rM K k hv l r hr
   obtain ⟨rv, ad, q1, q2, q3⟩ := qaf (P := P) K k (lH (by simpa using hv.length) (hv.atT a)) hv'
   refine ⟨rv :: rvs, ?_, .cons _ _ _ _ q3 h2⟩
   have ha : (asAddr (rtm.getD a undef)).run P w = .ok ad w := by rw [q1]; rfl
   simp only [List.mapM_cons, Sem.run_bind, ha, Sem.run_pure, Result.andThen_ok, q2, h1]
  ·cases h
theorem sar {E : Env} {a b : List Dd} {a' b' : List Deferred} (h : zI μ a a') (k : zI μ b b') : zI μ (gy a b) (a' ++ b') := by
 induction a generalizing a' with
 | nil => cases h; exact k
 | cons x a ih => cases h with | cons _ _ _ _ h1 h2 => exact .cons _ _ _ _ h1 (ih h2)
theorem tam (K : kF C) (k : At C μ w h f fr cs rcs lo) (hm : f.mode ≠ .run) : dx C (jC C.E f cs h) (lone fr rcs w) := by
 have hmode := k.hfr.mode
 have hrm : fr.mode ≠ .run := by
  generalize hx : f.mode = fm at hmode hm
  generalize hy : fr.mode = frm at hmode
  cases hmode with
  | run => exact absurd rfl hm
  | returning => simp
  | panicking => simp
 have hun := nab (P := C.P) (cs := rcs) (w := w) hrm
 have hdef := k.hfr.defers
 unfold jC
 split
 ·rename_i r ds hfd
  rw [hfd] at hdef
  generalize hrd : fr.defers = rd at hdef
  cases hdef with
  | cons _ d' _ ds' hd1 hd2 =>
  cases hd1 with
  | mark _ i a' hi =>
  split
  ·rename_i calls hg
   obtain ⟨o', ho, hob⟩ := k.wrel.ob r i _ hi hg
   cases hob with
   | defs _ calls' g1 g2 g3 =>
   have hgo := uj (P := C.P) ho (fun _ _ _ hc => by cases hc)
   have hrun : (Instr.takeDeferred i.r).run C.P w = .ok calls' { w with heap := w.heap.setIfInBounds i.r (.deferred none) } := by
    simp only [Instr.takeDeferred, Sem.run_bind, hgo, Result.andThen_ok, Sem.run_pure, wm (P := C.P) ho (fun _ _ _ hc => by cases hc)]
   have hs : (stepG C.P true (gor fr rcs) w).bare = .go (gor { fr with defers := calls' ++ ds' } rcs) { w with heap := w.heap.setIfInBounds i.r (.deferred none) } := by
    rw [hun]
    simp only [unwind, hrd, Sem.runT_eq, hrun, GStep.bare_after, GStep.bare_go]
   refine ⟨_, .one (step_lone_go hs), μ, _, _, _, lo, rfl, yg.cal k.wrel hi g2 hg (by simp) ho (.defs0 g1 g2), k.ext, k.n0, by rw [H.iE]; exact k.hlo, ?_, k.hcs⟩
   exact ⟨k.hfr.fn, k.hfr.kind, k.hfr.rnd, sar (E := C.E) g3 hd2, by simpa [H.iE] using k.hfr.mode⟩
  ·trivial
 ·rename_i fn captured args ds hfd
  rw [hfd] at hdef
  generalize hrd : fr.defers = rd at hdef
  cases hdef with
  | cons _ d' _ ds' hd1 hd2 =>
  cases hd1 with
  | call _ g _ _ c' a' hf hc ha =>
  have hgot := uN K.env K.exts (k.sP K) k.wrel hf hc ha
  split
  ·rename_i g2 args2 hinv
   rw [hinv] at hgot
   obtain ⟨rargs, w', hr, hw, har⟩ := hgot
   refine uw fun f' hf' => ?_
   obtain ⟨p1, p2, p3⟩ := bQ K.env (n := h.next) har hf'
   have hs : (stepG C.P true (gor fr rcs) w).bare = .go (gor (Frame.enter C.P g2 rargs .deferred) ({ fr with defers := ds' } :: rcs)) w' := by
    rw [hun]
    simp only [unwind, hrd, callDeferred, Bool.false_and, Bool.false_eq_true, if_false, Sem.runT_eq, hr, GStep.bare_after, GStep.bare_go]
   refine ⟨_, .one (step_lone_go hs), μ, w', _, _, h.next, rfl, hw, k.ext, Nat.le_trans k.n0 k.hlo, Nat.le_refl _, p1, ?_⟩
   exact .cons h.next lo _ _ cs rcs k.n0 k.hlo ⟨k.hfr.fn, k.hfr.kind, k.hfr.rnd, hd2, k.hfr.mode⟩ (fun hc => absurd hc hm) k.hcs
  ·trivial
 ·trivial
 ·rename_i hfd
  rw [hfd] at hdef
  generalize hrd : fr.defers = rd at hdef
  cases hdef
  split
  ·trivial
  ·rename_i chain hfm
   rw [hfm] at hmode
   generalize hrmm : fr.mode = rm at hmode
   cases hmode with
   | panicking _ ch' p1 p2 =>
   split
   ·rename_i c rest
    split
    ·rename_i fn hfn
     obtain ⟨e1, e2, e3⟩ := K.env.fn _ _ hfn
     rw [k.hfr.fn] at e1
     have hcs := k.hcs
     generalize hrcs : rcs = rr at hcs
     cases hcs with
     | cons _ lo2 _ rc _ rrest q0 q1 q2 q3 q4 =>
     subst hrcs
     refine uw fun f' hf' => ?_
     have q2' : uB C.E μ lo2 h.next c rc := q2.mono (sj.refl _ _) (Nat.le_refl _) k.hlo
     obtain ⟨r1, r2⟩ := daf q2' p2 hf'
     have hs : (stepG C.P true (gor fr (rc :: rrest)) w).bare = .go (gor (rc.raise ch') rrest) w := by
      rw [hun]
      simp only [unwind, hrd, hrmm, Frame.catches, e1, Bool.false_eq_true, if_false, GStep.bare_go]
     exact ⟨_, .one (step_lone_go hs), μ, w, _, _, lo2, rfl, k.wrel, k.ext, q0, Nat.le_trans q1 k.hlo, r1, q4⟩
    ·trivial
   ·trivial
  ·rename_i hfm
   rw [hfm] at hmode
   generalize hrmm : fr.mode = rm at hmode
   cases hmode with
   | returning hv =>
   split
   ·rename_i fn hfn
    obtain ⟨e1, e2, e3⟩ := K.env.fn _ _ hfn
    rw [k.hfr.fn] at e1
    split
    ·rename_i vs hvs
     obtain ⟨rvs, h1, h2⟩ := rM K.env k.wrel hv _ _ hvs
     have hres : (results fn fr.tmps).run C.P w = .ok (if h : rvs.toArray.size = 1 then rvs.toArray[0] else .tuple rvs.toArray) w := by
      have hm2 : (fn.results.mapM fun (x : ResultVar) => match x with
       | .tmp t => (pure (fr.tmps.getD t undef) : Sem Value)
       | .cell a t => do loadVar t (← asAddr (fr.tmps.getD a undef))).run C.P w = .ok rvs.toArray w := by
       rw [Array.mapM_eq_mapM_toList]
       simp only [Sem.run_map, h1]
       rfl
      unfold results
      rw [Sem.run_bind]
      erw [hm2]
      rfl
     have hone := man (a := rvs.toArray) h2
     cases cs with
     | nil =>
      have hcs := k.hcs
      generalize hrcs : rcs = rr at hcs
      cases hcs
      unfold bz
      simp only
      split
      ·rename_i hk
       refine ⟨μ, w, fr, _, Steps.refl _ _, k.hfr.fn.symm, ⟨hrmm, hrd, by rw [← k.hfr.kind]; exact hk, fn, e1, hres⟩, k.wrel, k.ext, hone⟩
      ·trivial
     | cons c rest =>
      refine tT (w := w) (fr := fr) (rcs := rcs) k.wrel k.ext k.hlo k.hfr.kind k.hcs hone rfl ?_
      rw [hun]
      simp only [unwind, hrd, hrmm, e1, Sem.runT_eq, hres, GStep.bare_after]
    ·trivial
   ·trivial
end
end Go.Ev
end
noncomputable section
namespace Go.Ev
open Go.RowKit (Below)
section
variable {C : Cx} {μ : Mu} {w : World} {h : H} {f : F} {fr : Frame} {cs : List F} {rcs : List Frame} {lo : Nat}
theorem caf (n k : Nat) : List.range' n (k + 1) = n :: List.range' (n + 1) k := by simp [List.range'_succ]
theorem cae (E : Env) (tm : List V) (c : Call) (h : H) : (∃ d, oG E tm c h = .defer d) ∨ ∃ n, oG E tm c h = .fail n := by
 unfold oG
 repeat' split
 all_goals first | exact .inl ⟨_, rfl⟩ | exact .inr ⟨_, rfl⟩
theorem gal (K : kF C) (k : At C μ w h f fr cs rcs lo) (hm : f.mode = .run) (hsu : vU f fr) {ops : Array Oper} {i : Nat} {R : List Nat} {todo : List Item} {o : Oper} (hrm : fr.mode = .run)
  (ht : fr.todo = .inRegion ops (i :: R) :: todo) (ho : ops[i]? = some o) (hw : Region.wanted o (yielded ops fr.tmps) = true) (hx : ∀ x ∈ o.op.operands, ze μ (ev C.E f.tm x) (fr.eval x)) :
  dx C (gq C.E C.O f cs (aop C.E f.tm o.op h) h) (lone fr rcs w) := by
 have hgot := jat K.env K.exts (k.sP K) k.wrel hx
 by_cases hd : fr.roundOf = none ∨ ∀ c, o.op ≠ .defer c
 ·exact aab K k hm hsu (by rw [stepG_oper hrm ht ho hw hd]) hgot
 ·have hrn : fr.roundOf ≠ none := fun h => hd (.inl h)
  have hrnd := k.hfr.rnd
  cases hop : o.op with
  | defer c =>
   have : aop C.E f.tm (.defer c) h = oG C.E f.tm c h := rfl
   rw [this]
   rcases cae C.E f.tm c h with ⟨d, hd⟩ | ⟨n, hd⟩
   ·rw [hd]
    simp only [gq, yac]
    split
    ·rename_i hf
     rw [hf] at hrnd
     generalize fr.roundOf = x at hrnd hrn
     cases hrnd; exact absurd rfl hrn
    ·trivial
   ·rw [hd]; trivial
  | _ => exact absurd (.inr fun c hc => by rw [hop] at hc; cases hc) hd
theorem bal (k : At C μ w h f fr cs rcs lo) (hm : f.mode = .run) (hsu : vU f fr) {ops : Array Oper} {i : Nat} {R : List Nat} {todo : List Item} {o : Oper} {n : Nat} (hrm : fr.mode = .run)
  (ht : fr.todo = .inRegion ops (i :: R) :: todo) (ho : ops[i]? = some o) (hw : Region.wanted o (yielded ops fr.tmps) = false) :
  dx C (dz (finish f qg) cs h n) (lone fr rcs w) :=
 uw fun f' hf => ⟨_, .one (tL hrm ht ho hw), (k.finish hm hsu (dA _) hf).wQ⟩
theorem pM {it : It} {k0 : List It} (ht : f.todo = it :: k0) (hd : vF f.todo = false) : vU f fr := by
 unfold vU
 rw [ht] at hd ⊢
 cases it <;> first | trivial | cases hd
theorem eaJ (K : kF C) (k : At C μ w h f fr cs rcs lo) (hm : f.mode = .run) {all rest : List Oper} {k0 : List It} (ht : f.todo = .reg all rest :: k0) :
  dx C (nW C.E C.O f k0 cs h all rest) (lone fr rcs w) := by
 obtain ⟨b, k', hrm, hrt, hi, hk, hv⟩ := k.item hm ht (by rw [ht]; rfl)
 cases hi with
 | reg ops n _ hd =>
 unfold nW
 split
 ·refine xu k hm hrm ?_ hv hk
  rw [yu hrm, stepG.exec]
  simp only [hrt, List.length_nil, List.range'_zero]
 ·rename_i o rest
  have ho : ops.toList[n]? = some o := by
   have := congrArg (fun l => l[0]?) hd
   simpa using this
  have ho' : ops[n]? = some o := by simpa using ho
  rw [List.length_cons, caf] at hrt
  have hl : f.tm.length = fr.tmps.size := by simpa using hv.length
  have hsu : vU f fr := pM ht (by rw [ht]; rfl)
  split
  ·rename_i hw
   exact gal K k hm hsu hrm hrt ho' (lM hl (fun _ _ d _ _ => hv.atT d) hw) (fun x hx => wac (k.sP K) fun t _ => lH hl (hv.atT t))
  ·rename_i hw
   exact bal k hm hsu hrm hrt ho' (lM hl (fun _ _ d _ _ => hv.atT d) hw)
  ·trivial
theorem dao {E : Env} {tm : List V} {op : Op} {h h' : H} {u : V} (hf : gp op = true) (he : aop E tm op h = .val u h') : ∃ xs e, h' = fresh h xs e false ∧ ∀ b, blk u = some b → b = h.next := by
 unfold aop at he
 cases op with
 | alloc t =>
  simp only [fF] at he
  split at he
  ·cases he; exact ⟨_, _, rfl, fun b hb => by cases hb; rfl⟩
  ·cases he
 | box t x =>
  simp only [eae] at he
  split at he
  ·cases he; exact ⟨_, _, rfl, fun b hb => by cases hb; rfl⟩
  ·cases he
 | buildSlice t n ps =>
  simp only [uq] at he
  split at he
  ·cases he; exact ⟨_, _, rfl, fun b hb => by cases hb; rfl⟩
  ·cases he
 | _ => cases hf
theorem qaw (K : kF C) (k : At C μ w h f fr cs rcs lo) (hm : f.mode = .run) {all : List Oper} {ms pend : List Nat} {plan : List (Nat × Nat)} {k0 : List It} (ht : f.todo = .dreg all ms pend plan :: k0) :
  dx C (yJ C.E C.O f k0 cs h all pend plan) (lone fr rcs w) := by
 obtain ⟨hrm, htd⟩ := k.hfr.run hm
 rw [ht] at htd
 generalize hrt : fr.todo = td at htd
 cases htd with
 | plain _ _ h1 h2 =>
  obtain ⟨b, k', rfl, hi, hk⟩ := h2.cons_inv
  cases hi
 | draw ops _ _ dn _ X L' _ k' hms D hk =>
 have hpl := D.lC
 have hnd := D.hlin.nodup
 have settle : ∀ (Q R : List Nat) (pl : List (Nat × Nat)), plan = pl → L' = Q ++ R → (∀ q ∈ Q, q ∈ ixs dn) → ku C.E ops.toList f.tm h pend = true →
   ∃ μ' w' rtm', Steps C.P (lone fr rcs w) (lone { fr with tmps := rtm', todo := .inRegion ops R :: k' } rcs w') ∧
    At C μ' w' h f { fr with tmps := rtm', todo := .inRegion ops R :: k' } cs rcs lo ∧ di C.E μ' lo h.next ops f.tm rtm' pend dn plan (X ++ Q) R ∧ fw μ' k0 k' := by
  intro Q R pl hpl' hL hQ ha
  subst hL
  obtain ⟨μ', w', rtm', hs, hx, hw, D'⟩ := oW K.env K.exts k.hlo (Nat.le_refl _) R Q (k.sP K) k.wrel D hQ ha hrm hrt (cs := rcs)
  refine ⟨μ', w', rtm', hs, ⟨hw, ⟨k.ext.ext.trans hx.ext, fun b hb h0 => hx.keep b (by have := k.n0; omega) (k.ext.keep b hb h0)⟩, k.n0, k.hlo, ?_, k.hcs.mono hx (Nat.le_refl _)⟩, D', hk.mono hx.ext⟩
  refine ⟨k.hfr.fn, k.hfr.kind, k.hfr.rnd.mono hx.ext, k.hfr.defers.mono hx.ext, ?_⟩
  simp only [hm, hrm, ht]
  exact .run (.draw ops _ _ dn plan (X ++ Q) R k0 k' hms D' (hk.mono hx.ext))
 unfold yJ
 split
 ·rename_i _
  cases ha : ku C.E ops.toList f.tm h pend with
  | false => trivial
  | true =>
  simp only [cond_true]
  have hall : ∀ j ∈ X ++ L', j ∈ ixs dn := by
   intro j hj
   have := hpl.cover j (by simpa using (D.hlin.mem j).1 hj)
   simpa using this
  obtain ⟨μ', w', rtm', hs, k1, D1, hk1⟩ := settle L' [] [] rfl (by simp) (fun q hq => hall q (List.mem_append.2 (.inr hq))) ha
  refine dx.of_steps hs ?_
  refine xu k1 hm hrm (td' := k') ?_ ?_ hk1
  ·rw [yu (by exact hrm), stepG.exec]
  ·refine ae.rax (by simpa using D1.hlen) fun t v hv => ?_
   obtain ⟨rv, h1, h2⟩ := D1.hrel t v hv (fun i hi hx => absurd ((D1.hlin.mem i).2 (by
    have hm1 : i ∈ X ++ L' := Classical.byContradiction fun hc => by
     have : ¬ i < ops.size := fun hlt => hc ((D.hlin.mem i).2 hlt)
     obtain ⟨c, hc', hc2⟩ := D1.mY hi hx
     obtain ⟨o, ho, _⟩ := D1.lC.early i c (List.mem_append.2 (.inl hc')) hc2
     have := List.getElem?_eq_some_iff.1 ho
     obtain ⟨hlt, _⟩ := this
     simp at hlt
     omega
    exact (D.hlin.mem i).1 hm1)) (by simpa using hx))
   exact ⟨rv, by simpa using h1, h2⟩
 ·rename_i i c plan
  split
  ·trivial
  ·rename_i o ho
   rw [zg] at ho
   have ho' : ops[i]? = some o := by simpa using ho
   have hlt : i < ops.size := by
    obtain ⟨h, _⟩ := Array.getElem?_eq_some_iff.1 ho'; exact h
   have hdst : zk ops.toList i = o.dst := by rw [zk, zg, ho]
   rw [fq]
   by_cases hc : c = 2
   ·subst hc
    simp only [decide_true, cond_true]
    cases ha : ku C.E ops.toList f.tm h pend with
    | false => trivial
    | true =>
    simp only [cond_true]
    have hiX : i ∉ X := fun hx => D.dY rfl (D.hsub i hx)
    have hiL : i ∈ L' := by
     have := (D.hlin.mem i).2 hlt
     exact (List.mem_append.1 this).resolve_left hiX
    obtain ⟨Q, R, hQR⟩ := List.append_of_mem hiL
    have hQ : ∀ q ∈ Q, q ∈ ixs dn := by
     intro q hq
     have hmem : q ∈ X ++ L' := by rw [hQR]; simp [hq]
     have := hpl.cover q (by simpa using (D.hlin.mem q).1 hmem)
     rw [kr] at this
     rcases List.mem_append.1 this with h1 | h1
     ·exact h1
     ·exfalso
      obtain ⟨Q1, Q2, rfl⟩ := List.append_of_mem hq
      have hL : X ++ L' = (X ++ Q1) ++ q :: (Q2 ++ i :: R) := by rw [hQR]; simp
      simp only [ixs, List.map_cons, List.mem_cons] at h1
      rcases h1 with h1 | h1
      ·subst h1
       rw [hL] at hnd
       have := (List.nodup_cons.1 (List.nodup_append.1 hnd).2.1).1
       exact this (by simp)
      ·have hb := hpl.behind dn i plan rfl q h1
       have := D.hlin.mask (X ++ Q1).length (X ++ Q1) q _ (Nat.le_refl _) hL i hb
       rw [hL] at hnd
       exact (List.nodup_append.1 hnd).2.2 i this i (by simp) rfl
    obtain ⟨μ', w', rtm', hs, k1, D1, hk1⟩ := settle Q (i :: R) _ rfl hQR hQ ha
    refine dx.of_steps hs ?_
    have hsu : vU f { fr with tmps := rtm', todo := .inRegion ops (i :: R) :: k' } := by
     unfold vU
     rw [ht]
     exact ⟨rfl, R, rfl⟩
    split
    ·rename_i hw
     exact gal K k1 hm hsu hrm rfl ho' (D1.tQ ho' hw) (D1.operands (fr := { fr with tmps := rtm', todo := .inRegion ops (i :: R) :: k' }) (k1.sP K) ho')
    ·rename_i hw
     exact bal k1 hm hsu hrm rfl ho' (D1.tQ ho' hw)
    ·trivial
   ·simp only [hc, decide_false, cond_false]
    obtain ⟨o2, ho2, hcls, _⟩ := hpl.early i c (by simp) hc
    rw [ho] at ho2; cases ho2
    have done : ∀ (v : V) (h' : H) (f' : F), finish f v = some f' → yg C.E C.base C.w0 μ h' w → h.next ≤ h'.next → (c = 1 → ∀ b, blk v = some b → b = h.next ∧ h.next < h'.next ∧ μ h.next = none) →
      ∃ m', Steps C.P (lone fr rcs w) m' ∧ gZ C ⟨f', cs, h'⟩ m' := by
     intro v h' f' hf hw hn hb
     refine ⟨_, Steps.refl _ _, μ, w, fr, rcs, lo, rfl, hw, k.ext, k.n0, Nat.le_trans k.hlo hn, ?_, k.hcs⟩
     unfold finish at hf
     rw [ht] at hf
     simp only [fq, hc, decide_false, cond_false, Option.some.injEq] at hf
     subst hf
     refine ⟨k.hfr.fn, k.hfr.kind, k.hfr.rnd, k.hfr.defers, ?_⟩
     simp only [hm, hrm, hrt]
     exact .run (.draw ops _ _ (dn ++ [(i, c)]) plan X L' k0 k' hms (D.jao hc hn fun h1 b hbk => by
      obtain ⟨q1, q2, q3⟩ := hb h1 b hbk; exact ⟨q1, k.hlo, q2, q3⟩) hk)
    split
    ·rename_i hw
     cases hop : aop C.E f.tm o.op h with
     | val v h' =>
      simp only
      refine uw fun f' hf => ?_
      rcases hcls with ⟨rfl, hq, hnf⟩ | ⟨rfl, hfk, _⟩
      ·exact done v h f' hf k.wrel (Nat.le_refl _) (fun h => by cases h)
      ·obtain ⟨xs, e, rfl, hb⟩ := dao hfk hop
       simp only [Nat.beq_refl, cond_true]
       exact done v _ f' hf (k.wrel.early _) (by rw [fresh, H.fu]; omega) fun _ b hbk => ⟨hb b hbk, by rw [fresh, H.fu]; omega, (k.wrel.nxt _ (Nat.le_refl _)).2⟩
     | _ => trivial
    ·rename_i hw
     refine uw fun f' hf => done qg h f' hf k.wrel (Nat.le_refl _) (fun _ b hbk => by cases hbk)
    ·trivial
theorem taw (K : kF C) (k : At C μ w h f fr cs rcs lo) (hm : f.mode = .run) {c : Code} {k0 : List It} (ht : f.todo = .code c :: k0) :
  dx C (wF C.E C.O f k0 cs h c) (lone fr rcs w) := by
 obtain ⟨b, k', hrm, hrt, hi, hk, hv⟩ := k.item hm ht (by rw [ht]; rfl)
 cases hi with
 | code _ =>
 have hl : f.tm.length = fr.tmps.size := by simpa using hv.length
 have hrun := yu (P := C.P) (cs := rcs) (w := w) hrm
 unfold wF
 cases c with
 | ret =>
  refine eP K k hm hrm hv ?_
  rw [hrun, stepG.exec]; simp only [hrt]; rfl
 | skip => exact xu k hm hrm (by rw [hrun, stepG.exec]; simp only [hrt]) hv hk
 | label l => exact xu k hm hrm (by rw [hrun, stepG.exec]; simp only [hrt]) hv hk
 | seq a b => exact xu k hm hrm (by rw [hrun, stepG.exec]; simp only [hrt]) hv (.cons _ _ _ _ (.code a) (.cons _ _ _ _ (.code b) hk))
 | cond x a b =>
  have hx := wac (E := C.E) (fr := fr) (k.sP K) (x := x) fun t _ => lH hl (hv.atT t)
  simp only
  split
  ·rename_i he
   rw [he] at hx
   generalize hr : fr.eval x = r at hx
   cases hx
   exact xu k hm hrm (by rw [hrun, stepG.exec]; simp only [hrt, hr, if_true]) hv (.cons _ _ _ _ (.code a) hk)
  ·rename_i he
   rw [he] at hx
   generalize hr : fr.eval x = r at hx
   cases hx
   exact xu k hm hrm (by rw [hrun, stepG.exec]; simp only [hrt, hr, Bool.false_eq_true, if_false]) hv (.cons _ _ _ _ (.code b) hk)
  ·trivial
 | block id b => exact xu k hm hrm (by rw [hrun, stepG.exec]; simp only [hrt]) hv (.cons _ _ _ _ (.code b) (.cons _ _ _ _ (.inBlock id) hk))
 | loop b => exact xu k hm hrm (by rw [hrun, stepG.exec]; simp only [hrt]) hv (.cons _ _ _ _ (.code b) (.cons _ _ _ _ (.inLoop b) hk))
 | scope b => exact xu k hm hrm (by rw [hrun, stepG.exec]; simp only [hrt]) hv (.cons _ _ _ _ (.code b) (.cons _ _ _ _ (.inScope b) hk))
 | exit id =>
  simp only
  obtain ⟨g1, g2⟩ := las (id := id) hk
  split
  ·rename_i kk hkk
   obtain ⟨kk', h1, h2⟩ := g1 kk hkk
   exact xu k hm hrm (by rw [hrun, stepG.exec]; simp only [hrt, h1, Option.elim_some]) hv h2
  ·rename_i hkk
   refine eP K k hm hrm hv ?_
   rw [hrun, stepG.exec]; simp only [hrt, g2 hkk, Option.elim_none]; rfl
 | goto l =>
  simp only
  obtain ⟨g1, g2⟩ := eas (g := l) hk
  split
  ·rename_i kk hkk
   obtain ⟨kk', h1, h2⟩ := g1 kk hkk
   exact xu k hm hrm (by rw [hrun, stepG.exec]; simp only [hrt, h1, Option.elim_some]) hv h2
  ·rename_i hkk
   refine eP K k hm hrm hv ?_
   rw [hrun, stepG.exec]; simp only [hrt, g2 hkk, Option.elim_none]; rfl
 | refuse s => trivial
 | region id ops draw =>
  simp only
  cases draw with
  | false =>
   simp only
   refine xu k hm hrm (td' := .inRegion ops (List.range ops.size) :: k') (by rw [hrun, stepG.exec]; simp only [hrt, Bool.not_false, if_true]) hv (.cons _ _ _ _ ?_ hk)
   have := iF.reg (μ := μ) ops 0 ops.toList rfl
   rwa [Array.length_toList, ← List.range_eq_range'] at this
  | true =>
   simp only
   split
   ·rename_i p hp
    have hpl := lC hp
    have hs : (stepG C.P true (gor fr rcs) w).bare = .go (gor { fr with todo := .inRegion ops (Region.schedule true ops (w.tape w.drawn (.order fr.fn id))) :: k' } rcs) { w with drawn := w.drawn + 1 } := by
     rw [hrun, stepG.exec]
     simp [hrt, choose, Sem.run, Question.forced, Question.cut, K.env.mixed]
    refine ⟨_, .one (step_lone_go hs), μ, _, _, _, lo, rfl, k.wrel.drew, k.ext, k.n0, k.hlo, ?_, k.hcs⟩
    refine ⟨k.hfr.fn, k.hfr.kind, k.hfr.rnd, k.hfr.defers, ?_⟩
    simp only [hm, hrm]
    refine .run (.draw ops _ [] [] p [] _ k0 k' rfl ?_ hk)
    refine ⟨by simpa using hp, by simpa using kac hpl.back _, hl, fun d v hd _ => hv.atT d v hd, by simp, by simp, by simp [ixs], by simp, by simp [ixs], by simp [ixs]⟩
   ·trivial
 | rangeFunc g ps a b =>
  have hgl := k.sP K
  have hn := k.wrel.nxt h.next (Nat.le_refl _)
  have call : ∀ (μ1 : Mu) (w1 : World) (h1 : H) (f1 : F) (fr1 : Frame) (l r : Nat) (i : Info), At C μ1 w1 h1 f1 fr1 cs rcs lo → f1.mode = .run → f1.todo = .inRange l :: k0 → f1.tm = f.tm → fr1.tmps = fr.tmps → Ext μ μ1 → μ1 l = some i → i.r = r →
    (stepG C.P true (gor fr rcs) w).bare = (stepG.apply C.P true fr1 rcs none (do let d ← resolve fr1.eval { callee := .value g, args := #[.const (.func (.yield r) #[] #[])], argTypes := #[] } 0; invoke d.target d.args) w1).bare →
    dx C (nJ.call C.E C.O cs g l f1 h1) (lone fr rcs w) := by
   intro μ1 w1 h1 f1 fr1 l r i k1 hm1 ht1 htm1 htr1 hx hl1 hr1 hs
   have hx1 := wac (E := C.E) (fr := fr1) (k1.sP K) (x := g) (tm := f1.tm) fun t _ => by rw [htm1, htr1]; exact (lH hl (hv.atT t)).mono hx
   unfold nJ.call
   split
   ·rename_i fn first captured he
    rw [he] at hx1
    generalize hr : fr1.eval g = rf at hx1
    cases hx1 with
    | func _ rfn _ _ a' b' hfn q1 q2 =>
    refine aab K k1 hm1 (pM ht1 (by rw [ht1]; rfl)) hs ?_
    have hy : ae μ1 [.func (.yield l) [] []] [Value.func (.yield r) #[] #[]] := .cons _ _ _ _ (.func _ _ _ _ _ _ (by rw [← hr1]; exact .yield l i hl1) .nil .nil) .nil
    have := uN K.env K.exts (k1.sP K) k1.wrel hfn q2 (args := gy first [.func (.yield l) [] []]) (rargs := a' ++ #[Value.func (.yield r) #[] #[]]) (by rw [Array.toList_append]; exact q1.append hy)
    have hmap : Array.map fr1.eval #[Operand.const (Value.func (.yield r) #[] #[])] = #[Value.func (.yield r) #[] #[]] := by simp [Frame.eval]
    simp only [resolve, hr, Deferred.ofValue, Sem.run_bind, Sem.run_pure, Result.andThen_ok, hmap]
    exact this
   ·trivial
  simp only
  unfold nJ
  have hrnd := k.hfr.rnd
  split
  ·rename_i l hfl
   rw [hfl] at hrnd
   generalize hro : fr.roundOf = ro at hrnd
   cases hrnd with
   | some _ i hi =>
   split
   ·rename_i r hg
    obtain ⟨l', g1, g2, g3, g4⟩ := k.wrel.loop hi hg
    have hgo := uj (P := C.P) g1 (fun _ _ _ hc => by cases hc)
    have hex : Ext μ (μ.upd h.next ⟨w.heap.size, 0, false, 0, 0, false, nofun⟩) := Ext.upd hn.2
    have hxn : sj μ h.next (μ.upd h.next ⟨w.heap.size, 0, false, 0, 0, false, nofun⟩) := sj.upd hn.2
    have hlp : lZ (μ.upd h.next ⟨w.heap.size, 0, false, 0, 0, false, nofun⟩) { state := .ready, pending := none, fn := f.fn, tmps := f.tm, params := ps.toList, assign := a, body := b, defers := r.defers }
      { state := .ready, pending := none, fn := fr.fn, tmps := fr.tmps, params := ps, assign := a, body := b, defers := l'.defers } :=
     ⟨rfl, rfl, k.hfr.fn, hv.mono hex, rfl, rfl, rfl, (g2.mono hex).defers⟩
    have hw1 := k.wrel.alloc (.loop { state := .ready, pending := none, fn := f.fn, tmps := f.tm, params := ps.toList, assign := a, body := b, defers := r.defers })
     (.loop { state := .ready, pending := none, fn := fr.fn, tmps := fr.tmps, params := ps, assign := a, body := b, defers := l'.defers }) ⟨w.heap.size, 0, false, 0, 0, false, nofun⟩ rfl (.loop _ _ rfl rfl hlp) rfl
    have k1 := k.grow hxn hw1 (by rw [H.fu]; omega)
    have hent : (Instr.enterLoop fr.fn fr.tmps ps a b (some i.r)).run C.P w = .ok (w.heap.size, []) (w.alloc (.loop { state := .ready, pending := none, fn := fr.fn, tmps := fr.tmps, params := ps, assign := a, body := b, defers := l'.defers })) := by
     simp only [Instr.enterLoop, Instr.getLoop, Sem.run_bind, hgo, Result.andThen_ok, Sem.run_pure]
     rfl
    refine call _ _ _ _ { fr with todo := .inRangeFunc w.heap.size :: k', defers := fr.defers } h.next w.heap.size _ (k1.turn ?_) hm rfl rfl rfl hex (Mu.upd_same _ _ _) rfl ?_
    ·refine ⟨k1.hfr.fn, k1.hfr.kind, k1.hfr.rnd, k1.hfr.defers, ?_⟩
     simp only [hm, hrm]
     exact .run (.plain _ _ (hv.mono hex) (.cons _ _ _ _ (.inRange h.next ⟨w.heap.size, 0, false, 0, 0, false, nofun⟩ (Mu.upd_same _ _ _)) (hk.mono hex)))
    ·rw [hrun, stepG.exec]
     simp only [hrt, hro, Sem.runT_eq, hent, GStep.bare_after, List.nil_append]
   ·trivial
  ·rename_i hfl
   rw [hfl] at hrnd
   generalize hro : fr.roundOf = ro at hrnd
   cases hrnd
   have hex : Ext μ (μ.upd h.next ⟨w.heap.size, 0, false, 0, 0, false, nofun⟩) := Ext.upd hn.2
   have hxn : sj μ h.next (μ.upd h.next ⟨w.heap.size, 0, false, 0, 0, false, nofun⟩) := sj.upd hn.2
   have hw1 := k.wrel.alloc (.deferred (some [])) (.deferred (some [])) ⟨w.heap.size, 0, false, 0, 0, false, nofun⟩ rfl (.defs _ _ rfl rfl .nil) rfl
   have k1 := k.grow hxn hw1 (by rw [H.fu]; omega)
   have hn2 := k1.wrel.nxt (h.next + 1) (by rw [H.fu]; exact Nat.le_refl _)
   have hsz : (w.alloc (.deferred (some []))).heap.size = w.heap.size + 1 := by show (w.heap.push _).size = _; simp
   let μ1 := μ.upd h.next ⟨w.heap.size, 0, false, 0, 0, false, nofun⟩
   have hex2 : Ext μ1 (μ1.upd (h.next + 1) ⟨w.heap.size + 1, 0, false, 0, 0, false, nofun⟩) := Ext.upd hn2.2
   have hxn2 : sj μ1 (h.next + 1) (μ1.upd (h.next + 1) ⟨w.heap.size + 1, 0, false, 0, 0, false, nofun⟩) := sj.upd hn2.2
   have hlp : lZ (μ1.upd (h.next + 1) ⟨w.heap.size + 1, 0, false, 0, 0, false, nofun⟩) { state := .ready, pending := none, fn := f.fn, tmps := f.tm, params := ps.toList, assign := a, body := b, defers := h.next }
     { state := .ready, pending := none, fn := fr.fn, tmps := fr.tmps, params := ps, assign := a, body := b, defers := w.heap.size } :=
    ⟨rfl, rfl, k.hfr.fn, hv.mono (hex.trans hex2), rfl, rfl, rfl, ⟨_, hex2 _ _ (Mu.upd_same _ _ _), rfl⟩⟩
   have hw2 := k1.wrel.alloc (.loop { state := .ready, pending := none, fn := f.fn, tmps := f.tm, params := ps.toList, assign := a, body := b, defers := h.next })
    (.loop { state := .ready, pending := none, fn := fr.fn, tmps := fr.tmps, params := ps, assign := a, body := b, defers := w.heap.size }) ⟨w.heap.size + 1, 0, false, 0, 0, false, nofun⟩ hsz.symm (.loop _ _ rfl rfl hlp) rfl
   have k2 := k1.grow hxn2 hw2 (by simp only [H.fu]; omega)
   have hent : (Instr.enterLoop fr.fn fr.tmps ps a b none).run C.P w = .ok (w.heap.size + 1, [{ target := .collected w.heap.size, args := #[] }])
     ((w.alloc (.deferred (some []))).alloc (.loop { state := .ready, pending := none, fn := fr.fn, tmps := fr.tmps, params := ps, assign := a, body := b, defers := w.heap.size })) := by
    rw [← hsz]; rfl
   refine call _ _ _ _ { fr with todo := .inRangeFunc (w.heap.size + 1) :: k', defers := { target := .collected w.heap.size, args := #[] } :: fr.defers } (h.next + 1) (w.heap.size + 1) _ (k2.turn ?_) hm rfl rfl rfl (hex.trans hex2) (Mu.upd_same _ _ _) rfl ?_
   ·refine ⟨k2.hfr.fn, k2.hfr.kind, k2.hfr.rnd, .cons _ _ _ _ (.mark h.next ⟨w.heap.size, 0, false, 0, 0, false, nofun⟩ #[] (hex2 _ _ (Mu.upd_same _ _ _))) k2.hfr.defers, ?_⟩
    simp only [hm, hrm]
    exact .run (.plain _ _ (hv.mono (hex.trans hex2)) (.cons _ _ _ _ (.inRange (h.next + 1) ⟨w.heap.size + 1, 0, false, 0, 0, false, nofun⟩ (Mu.upd_same _ _ _)) (hk.mono (hex.trans hex2))))
   ·rw [hrun, stepG.exec]
    simp only [hrt, hro, Sem.runT_eq, hent, GStep.bare_after, List.cons_append, List.nil_append]
theorem wag (K : kF C) (k : At C μ w h f fr cs rcs lo) (hm : f.mode = .run) {l : Nat} {k0 : List It} (ht : f.todo = .endRange l :: k0) : dx C (nH f k0 cs h l) (lone fr rcs w) := by
 obtain ⟨b, k', hrm, hrt, hi, hk, hv⟩ := k.item hm ht (by rw [ht]; rfl)
 cases hi with
 | endRange _ i hl =>
 have hrun := yu (P := C.P) (cs := rcs) (w := w) hrm
 unfold nH
 split
 ·rename_i r hg
  obtain ⟨l', g1, g2, g3, g4⟩ := k.wrel.loop hl hg
  have hgo := uj (P := C.P) g1 (fun _ _ _ hc => by cases hc)
  split
  ·trivial
  ·rename_i hb
   have hne : (l'.state == .busy) = false := by
    rw [← g2.state]
    cases hx : r.state <;> first | rfl | exact absurd hx hb
   have hend : (Instr.endLoop i.r).run C.P w = .ok l'.pending { w with heap := w.heap.setIfInBounds i.r (.loop { l' with state := .exhausted }) } := by
    simp only [Instr.endLoop, Instr.getLoop, Sem.run_bind, hgo, Result.andThen_ok, Sem.run_pure, hne, Bool.false_eq_true, if_false, wm (P := C.P) g1 (fun _ _ _ hc => by cases hc)]
   have hw := yg.cal k.wrel hl g4 hg (by simp) g1 (.loop { r with state := .exhausted } { l' with state := .exhausted } g3 g4 ⟨rfl, g2.pending, g2.fn, g2.tmps, g2.params, g2.assign, g2.body, g2.defers⟩)
   have hs : (stepG C.P true (gor fr rcs) w).bare = .go (gor { fr with todo := (l'.pending.map Item.code).toList ++ k' } rcs) { w with heap := w.heap.setIfInBounds i.r (.loop { l' with state := .exhausted }) } := by
    rw [hrun, stepG.exec]
    simp only [hrt, Sem.runT_eq, hend, GStep.bare_after, GStep.bare_go]
   have k1 := k.same hw (by rw [H.iE]; exact Nat.le_refl _)
   refine ⟨_, .one (step_lone_go hs), (k1.turn (fr' := { fr with todo := (l'.pending.map Item.code).toList ++ k' }) ?_).wQ⟩
   refine ⟨k1.hfr.fn, k1.hfr.kind, k1.hfr.rnd, k1.hfr.defers, ?_⟩
   simp only [hm, hrm]
   refine .run (.plain _ _ hv ?_)
   rw [← g2.pending]
   cases r.pending with
   | none => exact hk
   | some c => exact .cons _ _ _ _ (.code c) hk
 ·trivial
theorem eat (K : kF C) (k : At C μ w h f fr cs rcs lo) (hm : f.mode = .run) {k0 : List It} (ht : f.todo = .beginRound :: k0) : dx C (vY f cs h) (lone fr rcs w) := by
 obtain ⟨b, k', hrm, hrt, hi, hk, hv⟩ := k.item hm ht (by rw [ht]; rfl)
 cases hi with
 | beginRound =>
 have hrun := yu (P := C.P) (cs := rcs) (w := w) hrm
 have hrnd := k.hfr.rnd
 unfold vY
 split
 ·rename_i l hfl
  rw [hfl] at hrnd
  generalize hro : fr.roundOf = ro at hrnd
  cases hrnd with
  | some _ i hl =>
  split
  ·rename_i r hg
   obtain ⟨l', g1, g2, g3, g4⟩ := k.wrel.loop hl hg
   have hgo := uj (P := C.P) g1 (fun _ _ _ hc => by cases hc)
   split
   ·rename_i hst
    have hst' : l'.state = .ready := by rw [← g2.state]; exact hst
    have hbeg : ((do fr.roundOf.elim (stuck "beginRound: no round") Instr.beginRound; pure .skip : Sem Next)).run C.P w = .ok .skip { w with heap := w.heap.setIfInBounds i.r (.loop { l' with state := .busy }) } := by
     simp only [hro, Option.elim_some, Instr.beginRound, Instr.getLoop, Sem.run_bind, hgo, Result.andThen_ok, Sem.run_pure, hst', wm (P := C.P) g1 (fun _ _ _ hc => by cases hc)]
    have hw := yg.cal k.wrel hl g4 hg (by simp) g1 (.loop { r with state := .busy } { l' with state := .busy } g3 g4 ⟨rfl, g2.pending, g2.fn, g2.tmps, g2.params, g2.assign, g2.body, g2.defers⟩)
    refine uw fun f' hf => ?_
    have k1 := k.same hw (by rw [H.iE]; exact Nat.le_refl _)
    refine ⟨_, .one (step_lone_go ?_), (k1.finish hm (pM ht (by rw [ht]; rfl)) (dA _) hf).wQ⟩
    rw [hrun, stepG.exec]
    simp only [hrt]
    exact zY hbeg
   ·trivial
  ·trivial
 ·trivial
theorem naq (K : kF C) {s : S} {m : Machine} (hr : gZ C s m) : dx C (uL C.E C.O s) m := by
 obtain ⟨μ, w, fr, rcs, lo, rfl, hw, hx, h0, hlo, hf, hcs⟩ := hr
 have k : At C μ w s.h s.fr fr s.cs rcs lo := ⟨hw, hx, h0, hlo, hf, hcs⟩
 obtain ⟨f, cs, h⟩ := s
 simp only at k
 unfold uL
 simp only
 split
 ·rename_i hm
  unfold aaJ
  split
  ·rename_i ht
   obtain ⟨hrm, htd⟩ := k.hfr.run hm
   rw [ht] at htd
   generalize hrt : fr.todo = td at htd
   cases htd with
   | plain _ _ h1 h2 =>
    cases h2
    refine eP K k hm hrm h1 ?_
    rw [yu hrm, stepG.exec]; simp only [hrt]; rfl
  ·rename_i it k0 ht
   cases it with
   | code c => exact taw K k hm ht
   | inBlock id =>
    obtain ⟨b, k', hrm, hrt, hi, hk, hv⟩ := k.item hm ht (by rw [ht]; rfl)
    cases hi
    exact xu k hm hrm (by rw [yu hrm, stepG.exec]; simp only [hrt]) hv hk
   | inScope c =>
    obtain ⟨b, k', hrm, hrt, hi, hk, hv⟩ := k.item hm ht (by rw [ht]; rfl)
    cases hi
    exact xu k hm hrm (by rw [yu hrm, stepG.exec]; simp only [hrt]) hv hk
   | inLoop b =>
    obtain ⟨b', k', hrm, hrt, hi, hk, hv⟩ := k.item hm ht (by rw [ht]; rfl)
    cases hi
    exact xu k hm hrm (by rw [yu hrm, stepG.exec]; simp only [hrt]) hv (.cons _ _ _ _ (.code b) (.cons _ _ _ _ (.inLoop b) hk))
   | reg all rest => exact eaJ K k hm ht
   | dreg all ms pend plan => exact qaw K k hm ht
   | inRange l => trivial
   | endRange l => exact wag K k hm ht
   | beginRound => exact eat K k hm ht
 ·rename_i hm
  exact tam K k (fun h => hm h)
end
end Go.Ev
end
noncomputable section
namespace Go.Ev
open Go.RowKit (Below)
def Ends (C : Cx) (good : Nat → V → H → Bool) (s : S) : Prop :=
 ∀ m, gZ C s m → ∃ f v h, good f v h = true ∧ dx C (.done f v h) m
end Go.Ev
end
