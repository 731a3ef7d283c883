/- The law InquiryLong: part Ef. -/
import Derived.Lib.UnsafeStr
import Derived.Lib.IndexEntry
import Derived.Lib.Bytealg
import Derived.Lib.MakeNoZero
import Derived.Test.YtcbeheaiblgpfaaGreatDoorQEe
set_option linter.unusedVariables false
set_option linter.unusedSimpArgs false
noncomputable section
namespace Go.Ev
open Go.RowKit (Below)
section
variable {P : Program} {E : Env} {base : Nat} {w0 : World} {μ : Mu} {h : H} {w : World}
theorem bax (K : yh P E) (k : yg E base w0 μ h w) {t ty : Nat} {x v : V} {rx : Value} (hx : ze μ x rx) (hl : fat E t x h = some v) {ts : Array Nat} {xs : Array Value} (hts : ts[0]? = some t) (hxs : xs[0]? = some rx) :
  ∃ rv, (Builtin.len_ ts ty xs).run P w = .ok rv w ∧ ze μ v rv := by
 unfold fat at hl
 unfold Builtin.len_
 simp only [hts, hxs]
 split at hl
 ·rename_i s hd
  have hu := K.desc hd (by simp)
  cases hl
  cases hx with
  | str _ b hb => exact ⟨goInt b.size, by simp only [Sem.run_bind, run_underlying hu, Result.andThen_ok, Sem.run_pure], by rw [ll, Nat.add_zero, qp hb]; exact .int _ _⟩
 ·rename_i n e hd
  have hu := K.desc hd (by simp)
  cases hl
  exact ⟨goInt n, by simp only [Sem.run_bind, run_underlying hu, Result.andThen_ok, Sem.run_pure], .int _ _⟩
 ·rename_i a hd
  have hu := K.desc hd (by simp)
  split at hl
  ·rename_i n e hd2
   have hu2 := K.desc hd2 (by simp)
   cases hl
   exact ⟨goInt n, by simp only [Sem.run_bind, run_underlying hu, run_underlying hu2, Result.andThen_ok, Sem.run_pure], .int _ _⟩
  ·cases hl
 ·rename_i e b o n c hd
  have hu := K.desc hd (by simp)
  cases hl
  cases hx <;> exact ⟨goInt _, by simp only [Sem.run_bind, run_underlying hu, Result.andThen_ok, Sem.run_pure]; rfl, .int _ _⟩
 ·rename_i e hd
  have hu := K.desc hd (by simp)
  cases hl
  cases hx
  exact ⟨goInt 0, by simp only [Sem.run_bind, run_underlying hu, Result.andThen_ok, Sem.run_pure]; rfl, .int _ _⟩
 ·rename_i kt et hd
  have hu := K.desc hd (by simp)
  cases hl
  cases hx
  exact ⟨goInt 0, by simp only [Sem.run_bind, run_underlying hu, Result.andThen_ok, Sem.run_pure], .int _ _⟩
 ·rename_i kt et r hd
  have hu := K.desc hd (by simp)
  split at hl
  ·rename_i es c ro hg
   cases hl
   cases hx with
   | map _ i hb =>
    obtain ⟨es', q1, q2, q3, q4⟩ := k.map hb hg
    have hgo := uj (P := P) q1 (fun _ _ _ hc => by cases hc)
    refine ⟨goInt es'.size, by simp only [Sem.run_bind, run_underlying hu, Result.andThen_ok, hgo, Sem.run_pure], ?_⟩
    rw [ll, Nat.add_zero, q4.length, Array.length_toList]
    exact .int _ _
  ·cases hl
 ·cases hl
theorem cax (K : yh P E) {t ty : Nat} {x v : V} {rx : Value} (hx : ze μ x rx) (hl : haK E t x = some v) {ts : Array Nat} {xs : Array Value} (hts : ts[0]? = some t) (hxs : xs[0]? = some rx) (w : World) :
  ∃ rv, (Builtin.cap_ ts ty xs).run P w = .ok rv w ∧ ze μ v rv := by
 unfold haK at hl
 unfold Builtin.cap_
 simp only [hts, hxs]
 split at hl
 ·rename_i e b o n c hd
  have hu := K.desc hd (by simp)
  cases hl
  cases hx
  exact ⟨goInt c, by simp only [Sem.run_bind, run_underlying hu, Result.andThen_ok, Sem.run_pure], .int _ _⟩
 ·rename_i e hd
  have hu := K.desc hd (by simp)
  cases hl
  cases hx
  exact ⟨goInt 0, by simp only [Sem.run_bind, run_underlying hu, Result.andThen_ok, Sem.run_pure]; rfl, .int _ _⟩
 ·rename_i n e hd
  have hu := K.desc hd (by simp)
  cases hl
  exact ⟨goInt n, by simp only [Sem.run_bind, run_underlying hu, Result.andThen_ok, Sem.run_pure], .int _ _⟩
 ·cases hl
theorem raf {x : V} {rx : Value} {m : Nat} (hx : ze μ x rx) (hm : oar x = some m) (w : World) : (Builtin.lenOf rx).run P w = .ok m w := by
 cases hx <;> simp only [oar] at hm <;> first | (cases hm; done) | skip
 ·rename_i s b hb
  cases hm
  rw [ll, Nat.add_zero, qp hb]; rfl
 all_goals (cases hm; rfl)
theorem aM (k : yg E base w0 μ h w) {x : V} {rx : Value} {m n size : Nat} {cs : List V} (hx : ze μ x rx) (hn : oar x = some n) (hm : m ≤ n) (hc : qH size m x h = some cs) :
  ∃ rl, (Builtin.firstCells size m rx).run P w = .ok rl.toArray w ∧ ae μ cs rl := by
 unfold qH at hc
 split at hc
 ·cases hc; cases hx; exact ⟨[], rfl, .nil⟩
 ·rename_i s
  split at hc
  ·rw [Option.map_eq_some_iff] at hc
   obtain ⟨t, ht, rfl⟩ := hc
   cases hx with
   | str _ b hb =>
    rw [xx] at ht
    split at ht
    ·cases ht
     refine ⟨(b.data.toList.take m).map fun c => Value.int .u8 c.toNat, ?_, ?_⟩
     ·simp only [Builtin.firstCells, Sem.run_pure]
      congr 1
      apply Array.toList_inj.1
      simp [ByteArray.data_extract, List.map_take]
     ·rw [← hb]
      have := jI μ (b.data.toList.take m)
      rw [List.map_take] at this
      exact this
    ·cases ht
  ·cases hc
 ·rename_i b o len cap
  cases hx with
  | slE _ _ _ c i hb =>
   obtain ⟨rl, h1, h2, h3⟩ := k.rd hb hc
   exact ⟨rl, sD (c := c) h2 h3, h1⟩
  | slU _ _ _ c i hb _ _ =>
   obtain ⟨rl, h1, h2, h3⟩ := k.rd hb hc
   exact ⟨rl, sD (c := c) h2 h3, h1⟩
  | slZ _ _ a i hb _ =>
   simp only [oar] at hn
   cases hn
   have hm0 : m = 0 := by omega
   subst hm0
   rw [Nat.zero_mul] at hc
   have := bV hc
   subst this
   exact ⟨[], by simp [Builtin.firstCells, loadCells, loadCellsFrom], .nil⟩
 ·cases hc
theorem gat (K : yh P E) (k : yg E base w0 μ h w) {td tx ty : Nat} {d x : V} {rd' rx : Value} (hd : ze μ d rd') (hx : ze μ x rx) :
  il E base w0 μ h (iat E td d x h) ((Builtin.copy_ #[td, tx] ty #[rd', rx]).run P w) := by
 unfold iat
 split
 ·rename_i e hde
  have hu := K.desc hde (by simp)
  split
  ·rename_i i ht
   split
   ·
    rename_i m hm
    cases hd
    split
    ·rename_i hc
     obtain ⟨rl, h1, h2⟩ := aM (P := P) k hx hm (Nat.zero_le _) hc
     cases h2
     refine same k (.int _ _) ?_
     have hlen := raf (P := P) hx hm w
     have hmin : Nat.min m 0 = 0 := Nat.min_zero m
     unfold Builtin.copy_
     simp only [List.getElem?_toArray, List.getElem?_cons_zero, List.getElem?_cons_succ, Sem.run_bind, run_underlying hu, Result.andThen_ok, hlen, hmin, K.ow ht, h1, Sem.run_pure]
     rfl
    ·trivial
   ·rename_i m b o len c hm
    split
    ·rename_i cs hc
     split
     ·rename_i h' hw
      obtain ⟨rl, h1, h2⟩ := aM (P := P) k hx hm (Nat.min_le_left m len) hc
      have hlen := raf (P := P) hx hm w
      have fin : ∀ (a : Addr) (c' : Nat), (∃ w', (storeCells a rl).run P w = .ok () w' ∧ yg E base w0 μ h' w') →
        il E base w0 μ h (.val (.int .i64 (.ofNat (Nat.min m len))) h') ((Builtin.copy_ #[td, tx] ty #[.slice (some a) len c', rx]).run P w) := by
       intro a c' hst
       obtain ⟨w', s1, s2⟩ := hst
       refine ⟨μ, goInt (Nat.min m len), w', ?_, sj.refl _ _, s2, .int _ _⟩
       unfold Builtin.copy_
       simp only [List.getElem?_toArray, List.getElem?_cons_zero, List.getElem?_cons_succ, Sem.run_bind, run_underlying hu, Result.andThen_ok, hlen, K.ow ht, h1, s1, Sem.run_pure]
      cases hd with
      | slE _ _ _ c' j hb =>
       exact fin _ _ (k.wr (P := P) hb hw h2)
      | slU _ _ _ c' j hb _ _ =>
       exact fin _ _ (k.wr (P := P) hb hw h2)
      | slZ _ _ a j hb hend =>
       have hmin : Nat.min m 0 = 0 := Nat.min_zero m
       rw [hmin] at hc
       have hnil : cs = [] := by
        unfold qH at hc
        split at hc
        ·cases hc; rfl
        ·split at hc
         ·rw [Option.map_eq_some_iff] at hc
          obtain ⟨t, ht, rfl⟩ := hc
          rw [xx] at ht
          simp at ht
          subst ht
          rfl
         ·cases hc
        ·rw [Nat.zero_mul] at hc; exact bV hc
        ·cases hc
       subst hnil
       cases h2
       obtain ⟨w', s1, s2⟩ := k.wr (P := P) hb hw ae.nil
       cases s1
       exact fin a 0 ⟨w, rfl, s2⟩
     ·trivial
    ·trivial
   ·trivial
  ·trivial
 ·trivial
theorem jm.erase {es : List (V × V × Nat)} {res : List MapEntry} (he : jm μ es res) : ∀ i, jm μ (zP es i) (res.eraseIdx i) := by
 induction es generalizing res with
 | nil => intro i; cases he; cases i <;> exact .nil
 | cons x l ih =>
  intro i
  cases he with
  | cons k v b e _ l' h1 h2 h3 hl =>
   cases i with
   | zero => simpa [zP] using hl
   | succ i => simp only [zP, List.eraseIdx_cons_succ]; exact .cons _ _ _ _ _ _ h1 h2 h3 (ih hl i)
theorem lak (K : yh P E) (k : yg E base w0 μ h w) {t ty : Nat} {m x : V} {rm rx : Value} (hm : ze μ m rm) (hx : ze μ x rx) {ts : Array Nat} {xs : Array Value} (hts : ts[0]? = some t) (hxs : xs[0]? = some rm) (hxs1 : xs[1]? = some rx) :
  il E base w0 μ h (rad E t m x h) ((Builtin.delete_ ts ty xs).run P w) := by
 unfold rad
 split
 ·rename_i kt et hd
  have hu := K.desc hd (by simp)
  cases hk : tF E kt x with
  | false => trivial
  | true =>
  simp only [cond_true]
  split
  ·cases hm
   refine same k (.tup _ _ .nil) ?_
   have hck := wJ (P := P) K hx hk true w
   unfold Builtin.delete_
   simp only [hts, hxs, hxs1, Sem.run_bind, run_underlying hu, Result.andThen_ok, hck, Sem.run_pure]
  ·rename_i r
   cases hm with
   | map _ i hb =>
   split
   ·rename_i es c hg
    obtain ⟨es', q1, q2, q3, q4⟩ := k.map hb hg
    have hgo := uj (P := P) q1 (fun _ _ _ hc => by cases hc)
    have hck := wJ (P := P) K hx hk es'.isEmpty w
    split
    ·rename_i j u hf
     obtain ⟨rr, g1, g2⟩ := qE (P := P) K k hx hk q4 hf w
     cases g2 with
     | some _ _ ru hu2 =>
      refine ⟨μ, .tuple #[], { w with heap := w.heap.setIfInBounds i.r (.map (es'.eraseIdxIfInBounds j) c) }, ?_, sj.refl _ _, ?_, .tup _ _ .nil⟩
      ·unfold Builtin.delete_
       simp only [hts, hxs, hxs1, Sem.run_bind, run_underlying hu, Result.andThen_ok, hgo, hck, g1, wm (P := P) q1 (fun _ _ _ hc => by cases hc), Sem.run_pure]
      ·refine k.set hb q3 hg (by simp) q1 (.map _ _ _ _ q2 q3 ?_)
       rw [Array.toList_eraseIdxIfInBounds]
       exact q4.erase j
    ·rename_i hf
     obtain ⟨rr, g1, g2⟩ := qE (P := P) K k hx hk q4 hf w
     cases g2
     refine ⟨μ, .tuple #[], { w with heap := w.heap.setIfInBounds i.r (.map es' c) }, ?_, sj.refl _ _, ?_, .tup _ _ .nil⟩
     ·unfold Builtin.delete_
      simp only [hts, hxs, hxs1, Sem.run_bind, run_underlying hu, Result.andThen_ok, hgo, hck, g1, wm (P := P) q1 (fun _ _ _ hc => by cases hc), Sem.run_pure]
     ·exact k.set hb q3 hg (by simp) q1 (.map _ _ _ _ q2 q3 q4)
    ·trivial
   ·trivial
  ·trivial
 ·trivial
theorem gav {x y z : V} {rx ry : Value} (hx : ze μ x rx) (hy : ze μ y ry) (hm : hav x y = some z) (w : World) : ∃ rz, (Builtin.min2 rx ry).run P w = .ok rz w ∧ ze μ z rz := by
 unfold hav at hm
 split at hm
 ·cases hm; cases hx; cases hy
  refine ⟨_, rfl, ?_⟩
  rw [xJ]
  rename_i k a j b
  by_cases h : b < a
  ·simp only [h, decide_true, cond_true, if_true]; exact .int _ _
  ·simp only [h, decide_false, cond_false, if_false]; exact .int _ _
 ·cases hm
theorem iav {x y z : V} {rx ry : Value} (hx : ze μ x rx) (hy : ze μ y ry) (hm : jav x y = some z) (w : World) : ∃ rz, (Builtin.max2 rx ry).run P w = .ok rz w ∧ ze μ z rz := by
 unfold jav at hm
 split at hm
 ·cases hm; cases hx; cases hy
  refine ⟨_, rfl, ?_⟩
  rw [xJ]
  rename_i k a j b
  by_cases h : a < b
  ·simp only [h, decide_true, cond_true, gt_iff_lt, if_true]; exact .int _ _
  ·simp only [h, decide_false, cond_false, gt_iff_lt, if_false]; exact .int _ _
 ·cases hm
theorem kag (f : V → V → Option V) (g : Value → Value → Sem Value) (hfg : ∀ (x y z : V) (rx ry : Value) (w : World), ze μ x rx → ze μ y ry → f x y = some z → ∃ rz, (g rx ry).run P w = .ok rz w ∧ ze μ z rz) :
  ∀ (l : List V) (rl : List Value) (x z : V) (rx : Value) (w : World), ae μ l rl → ze μ x rx → nag f x l = some z → ∃ rz, (rl.foldlM g rx).run P w = .ok rz w ∧ ze μ z rz
 | [], _, x, z, rx, w, .nil, hx, h => by simp only [nag] at h; cases h; exact ⟨rx, rfl, hx⟩
 | y :: l, _, x, z, rx, w, .cons _ ry _ l' hy hl, hx, h => by
  simp only [nag] at h
  split at h
  ·rename_i u hu
   obtain ⟨ru, h1, h2⟩ := hfg x y u rx ry w hx hy hu
   obtain ⟨rz, h3, h4⟩ := kag f g hfg l l' u z ru w hl h2 h
   exact ⟨rz, by simp only [List.foldlM_cons, Sem.run_bind, h1, Result.andThen_ok, h3], h4⟩
  ·cases h
theorem yY (f : V → V → Option V) (g : Value → Value → Sem Value) (hfg : ∀ (x y z : V) (rx ry : Value) (w : World), ze μ x rx → ze μ y ry → f x y = some z → ∃ rz, (g rx ry).run P w = .ok rz w ∧ ze μ z rz)
  {l : List V} {rl : List Value} {z : V} (hl : ae μ l rl) (h : qad f l = some z) (w : World) : ∃ rx rt rz, rl = rx :: rt ∧ (rt.foldlM g rx).run P w = .ok rz w ∧ ze μ z rz := by
 cases hl with
 | nil => cases h
 | cons x rx l rt hx hl =>
  obtain ⟨rz, h1, h2⟩ := kag f g hfg l rt x z rx w hl hx h
  exact ⟨rx, rt, rz, rfl, h1, h2⟩
theorem vao (K : yh P E) (k : yg E base w0 μ h w) {t ty : Nat} {x : V} {rx : Value} (hx : ze μ x rx) {ts : Array Nat} {xs : Array Value} (hts : ts[0]? = some t) (hxs : xs[0]? = some rx) :
  il E base w0 μ h (mak E t x h) ((Builtin.clear_ ts ty xs).run P w) := by
 unfold mak
 split
 ·rename_i kt et hd
  have hu := K.desc hd (by simp)
  cases hx
  refine same k (.tup _ _ .nil) ?_
  unfold Builtin.clear_
  simp only [hts, hxs, Sem.run_bind, run_underlying hu, Result.andThen_ok, Sem.run_pure]
 ·rename_i e hd
  have hu := K.desc hd (by simp)
  cases hx
  refine same k (.tup _ _ .nil) ?_
  unfold Builtin.clear_
  simp only [hts, hxs, Sem.run_bind, run_underlying hu, Result.andThen_ok, Sem.run_pure]
 ·rename_i kt et r hd
  have hu := K.desc hd (by simp)
  split
  ·rename_i es c hg
   cases hx with
   | map _ i hb =>
    obtain ⟨es', q1, q2, q3, q4⟩ := k.map hb hg
    have hgo := uj (P := P) q1 (fun _ _ _ hc => by cases hc)
    refine ⟨μ, .tuple #[], { w with heap := w.heap.setIfInBounds i.r (.map #[] c) }, ?_, sj.refl _ _, ?_, .tup _ _ .nil⟩
    ·unfold Builtin.clear_
     simp only [hts, hxs, Sem.run_bind, run_underlying hu, Result.andThen_ok, hgo, wm (P := P) q1 (fun _ _ _ hc => by cases hc), Sem.run_pure]
    ·exact k.set hb q3 hg (by simp) q1 (.map _ _ _ _ q2 q3 .nil)
  ·trivial
 ·rename_i e b o n c hd
  have hu := K.desc hd (by simp)
  split
  ·
   refine ⟨μ, .tuple #[], w, ?_, sj.refl _ _, k, .tup _ _ .nil⟩
   cases hx <;>
    (unfold Builtin.clear_
     simp only [hts, hxs, Sem.run_bind, run_underlying hu, Result.andThen_ok, Sem.run_pure])
  ·rename_i n
   split
   ·rename_i i ht
    obtain ⟨z, hz, hzr, hzs⟩ := K.oz (P := P) ht
    split
    ·rename_i h' hw
     have hrel := tq (ae.cells (hzr μ)) (n + 1)
     have hzc : (Builtin.zeroCells z.cells (n + 1)).toList = (List.replicate (n + 1) z.cells.toList).flatten := by
      by_cases h0 : 0 < z.cells.size
      ·rw [fD z.cells (n + 1) h0]
      ·have h00 : z.cells.size = 0 := by omega
       have : z.cells.toList = [] := List.eq_nil_of_length_eq_zero (by simpa using h00)
       simp [Builtin.zeroCells, h00, this]
     cases hx with
     | slE _ _ _ c j hb =>
      obtain ⟨w', s1, s2⟩ := k.wr (P := P) hb hw hrel
      refine ⟨μ, .tuple #[], w', ?_, sj.refl _ _, s2, .tup _ _ .nil⟩
      unfold Builtin.clear_
      simp only [hts, hxs, Sem.run_bind, run_underlying hu, Result.andThen_ok, hz, hzc, s1, Sem.run_pure]
     | slU _ _ _ c j hb _ _ =>
      obtain ⟨w', s1, s2⟩ := k.wr (P := P) hb hw hrel
      refine ⟨μ, .tuple #[], w', ?_, sj.refl _ _, s2, .tup _ _ .nil⟩
      unfold Builtin.clear_
      simp only [hts, hxs, Sem.run_bind, run_underlying hu, Result.andThen_ok, hz, hzc, s1, Sem.run_pure]
    ·trivial
   ·trivial
 ·trivial
theorem lL (k : yg E base w0 μ h w) {x : V} {rx : Value} (hx : ze μ x rx) (ts : Array Nat) (ty : Nat) : il E base w0 μ h (bC x h) ((Builtin.unsafeSliceData_ ts ty #[rx]).run P w) := by
 unfold bC
 split
 ·cases hx; exact same k .nilp rfl
 ·cases hx with
  | slU b o _ c i hb hle _ =>
   exact same k (.ptr _ _ i hb) (Lib.run_unsafeSliceData_row w ts ty _ _ _ (by omega))
 ·cases hx with
  | slE b o _ _ i hb =>
   exact same k (.ptr _ _ i hb) (Lib.run_unsafeSliceData_row w ts ty _ _ _ (by omega))
 ·trivial
theorem bP {r : Nat} : ∀ (bs : List UInt8) (a : Nat) (acc : ByteArray) (w : World), (∀ j (hj : j < bs.length), w.cell? ⟨r, a + j, none⟩ = some (.int .u8 (bs[j].toNat : Int))) →
  (loadBytes ⟨r, a, none⟩ acc bs.length).run P w = .ok ⟨acc.data ++ bs.toArray⟩ w
 | [], a, acc, w, _ => by simp [loadBytes]
 | b :: bs, a, acc, w, h => by
  have h0 := h 0 (by simp)
  simp only [Nat.add_zero, List.getElem_cons_zero] at h0
  have ih := bP bs (a + 1) (acc.push b) w (fun j hj => by
   have := h (j + 1) (by simp; omega)
   rw [show a + (j + 1) = a + 1 + j from by omega] at this
   simpa using this)
  have hadd : (⟨r, a, none⟩ : Addr).add 1 = ⟨r, a + 1, none⟩ := addr_add r a 1
  have hb : ((b.toNat : Int)).toNat.toUInt8 = b := by simp
  simp only [List.length_cons, loadBytes, Sem.run_bind, run_load, h0, Result.andThen_ok, hadd, hb, ih]
  simp [ByteArray.push]
theorem nU (P : Program) (d t : Nat) : sameLayout P (d + 1) t t = true := by simp [sameLayout]
theorem wG (tp tn ty : Nat) (a : Addr) (rn : Value) : Builtin.unsafeString_ #[tp, tn] ty #[.pointer (some a), rn] = (do
    let n ← asInt rn
    if n < 0 then runtimePanic (.error "unsafe.String: len out of range")
    if n > IntKind.i64.max then unsupported (.unsafePointer "String: a length above the largest int")
    if n = 0 then pure (.string .empty)
    else if ← variablesAt a (← elemOf tp) n.toNat then do
     let s ← loadBytes a .empty n.toNat
     freeze a n.toNat
     pure (.string s)
    else unsupported (.unsafePointer "String: not so many bytes at ptr")) := rfl
theorem bO (tp tn ty : Nat) (rn : Value) : Builtin.unsafeString_ #[tp, tn] ty #[.pointer none, rn] = (do
    let n ← asInt rn
    if n < 0 then runtimePanic (.error "unsafe.String: len out of range")
    if n > IntKind.i64.max then unsupported (.unsafePointer "String: a length above the largest int")
    if n = 0 then pure (.string .empty)
    else runtimePanic (.error "unsafe.String: ptr is nil and len is not zero")) := rfl
theorem sS (K : yh P E) (k : yg E base w0 μ h w) {tp tn ty : Nat} {p n : V} {rp rn : Value} (hp : ze μ p rp) (hn : ze μ n rn) :
  il E base w0 μ h (jG E tp p n h) ((Builtin.unsafeString_ #[tp, tn] ty #[rp, rn]).run P w) := by
 unfold jG
 split
 ·cases hp; cases hn
  refine same k (.str [] .empty rfl) ?_
  have hmax : IntKind.i64.max = 9223372036854775807 := rfl
  rw [bO]
  simp [asInt, asIntOf, hmax]
 ·cases hn
  cases hp with
  | ptr b o i hb =>
  refine same k (.str [] .empty rfl) ?_
  have hmax : IntKind.i64.max = 9223372036854775807 := rfl
  rw [wG]
  simp [asInt, asIntOf, hmax]
 ·rename_i b o kk n
  cases hn
  cases hp with
  | ptr _ _ i hb =>
  split
  ·rename_i xs e opn flo fhi u hg hdt
   have hut := K.desc hdt (by simp)
   split
   ·rename_i hde hue hsz
    have hu8 := K.desc hde (by simp)
    rw [fq, decide_eq_true_eq] at hue
    subst hue
    cases g1 : Nat.blt n 1000000000 with
    | false => trivial
    | true =>
    rw [au, decide_eq_true_eq] at g1
    simp only [cond_true]
    split
    ·rename_i cs hcs
     split
     ·rename_i s hs
      obtain ⟨carr, lo, hi, p1, p2, p3, p4, p5, p6, p7, p8⟩ := k.cells hb hg
      have hrd : rd h b o (n + 1) = some cs := by unfold rd; rw [hg]; exact hcs
      obtain ⟨rl, r1, r2, r3⟩ := k.rd hb hrd
      obtain ⟨bs, b1, b2⟩ := mM cs rl s r1 hs
      have hlen : bs.length = n + 1 := by rw [← r2, b2]; simp
      have hload := bP (P := P) (r := i.r) bs (i.sh + o) .empty w (fun j hj => r3 j _ (by rw [b2]; simp [hj]))
      rw [hlen] at hload
      have hbound : o + (n + 1) ≤ xs.length := by
       rw [xx, gH] at hcs
       split at hcs
       ·rename_i hh; simp at hh; omega
       ·cases hcs
      have hh : has E u = true := aY (n := 0) hsz
      obtain ⟨ti', hti'⟩ : ∃ t, E.ty.get u = some t := by unfold has at hh; split at hh; exact ⟨_, ‹_›⟩; cases hh
      obtain ⟨ti, z, q1, q2, _⟩ := (K.ty u ti' hti').info
      have hco : P.cellsOf u = 1 := by simp [Program.cellsOf, q1, q2, ← zG hti', hsz]
      have hsh : w.shape? i.r = some (u, carr.size) := by unfold World.shape?; rw [p1]
      obtain ⟨D, hD⟩ : ∃ D, P.depth = D + 1 := ⟨_, rfl⟩
      have hlies : liesAt P P.depth u (carr.size / P.cellsOf u) (i.sh + o) u (n + 1) = true := by
       conv => lhs; arg 2; rw [hD]
       simp only [liesAt]
       rw [Bool.or_eq_true]
       left
       conv => lhs; arg 3; rw [hD]
       simp only [rowAt]
       have hl : sameLayout P P.depth u u = true := by rw [hD]; exact nU P D u
       simp only [hco, Nat.div_one, Nat.mod_one, hl, Bool.and_true, Nat.one_ne_zero, if_false, beq_self_eq_true, Bool.true_and, Bool.or_eq_true, decide_eq_true_eq]
       left
       omega
      have helem : (elemOf tp).run P w = .ok u w := by simp [elemOf, run_underlying hut]
      have hvar : (variablesAt ⟨i.r, i.sh + o, none⟩ u (n + 1)).run P w = .ok true w := by simp [variablesAt, hsh, hlies]
      have hfz := p8 rfl
      have hrun : (Builtin.unsafeString_ #[tp, tn] ty #[.pointer (some ⟨i.r, i.sh + o, none⟩), .int kk (Int.ofNat (n + 1))]).run P w =
        .ok (.string ⟨bs.toArray⟩) (w.freeze ⟨i.r, i.sh + o, none⟩ (n + 1)) := by
       have t1 : ¬ ((Int.ofNat (n + 1)) < 0) := Int.not_lt.2 (Int.natCast_nonneg _)
       have hmax : IntKind.i64.max = 9223372036854775807 := by decide
       have t2 : ¬ ((Int.ofNat (n + 1)) > IntKind.i64.max) := by rw [hmax]; show ¬ (((n + 1 : Nat) : Int) > _); omega
       have t3 : ¬ ((Int.ofNat (n + 1)) = 0) := by show ¬ (((n + 1 : Nat) : Int) = 0); omega
       have t4 : (Int.ofNat (n + 1)).toNat = n + 1 := rfl
       rw [wG]
       simp only [asInt, asIntOf, Sem.run_bind, Sem.run_pure, Result.andThen_ok, t1, if_false, t2, t3, t4, helem, hvar, if_true, hload, run_freeze]
       have he : ByteArray.empty.data = #[] := rfl
       rw [he, Array.empty_append]
      have hws : (w.freeze ⟨i.r, i.sh + o, none⟩ (n + 1)).heap = w.heap.modify i.r (fun
        | .cells c elem (lo, hi) => .cells c elem (if lo == hi then (i.sh + o, i.sh + o + (n + 1)) else (min lo (i.sh + o), max hi (i.sh + o + (n + 1))))
        | o => o) := by
       unfold World.freeze
       rw [if_neg (by omega)]
       rfl
      have hother : ∀ r, r ≠ i.r → (w.freeze ⟨i.r, i.sh + o, none⟩ (n + 1)).heap[r]? = w.heap[r]? := fun r hr => by
       rw [hws, Array.getElem?_modify, if_neg (Ne.symm hr)]
      have hthis : (w.freeze ⟨i.r, i.sh + o, none⟩ (n + 1)).heap[i.r]? = some (.cells carr u (if lo == hi then (i.sh + o, i.sh + o + (n + 1)) else (min lo (i.sh + o), max hi (i.sh + o + (n + 1))))) := by
       rw [hws, Array.getElem?_modify, if_pos rfl, p1]; rfl
      have hsize : (w.freeze ⟨i.r, i.sh + o, none⟩ (n + 1)).heap.size = w.heap.size := by rw [hws]; simp
      have hrest : (w.freeze ⟨i.r, i.sh + o, none⟩ (n + 1)).os = w.os ∧ (w.freeze ⟨i.r, i.sh + o, none⟩ (n + 1)).tape = w.tape ∧ (w.freeze ⟨i.r, i.sh + o, none⟩ (n + 1)).output = w.output := by
       unfold World.freeze
       rw [if_neg (by omega)]
       exact ⟨rfl, rfl, rfl⟩
      cases g2 : Nat.beq flo fhi with
      | true =>
       rw [fq, decide_eq_true_eq] at g2
       have hlh : lo = hi := (hfz.2 rfl).1 g2
       rw [if_pos (by simp [hlh])] at hthis
       refine ⟨μ, .string ⟨bs.toArray⟩, _, hrun, sj.refl _ _, ?_, .str _ _ (by simp [gB, b1])⟩
       exact k.turn b i _ _ _ _ hb p3 hg (by simp) hother hthis (.cells _ _ _ _ _ _ _ _ _ _ p2 p3 p4 p5 p6 p7 (fun _ => ⟨fun j _ => by omega, fun _ => ⟨fun hc => by omega, fun _ => ⟨rfl, by omega⟩⟩⟩)) hsize hrest
      | false =>
       rw [fq, decide_eq_false_iff_not] at g2
       obtain ⟨hl1, hl2⟩ := (hfz.2 rfl).2 g2
       rw [if_neg (by simp; omega)] at hthis
       refine ⟨μ, .string ⟨bs.toArray⟩, _, hrun, sj.refl _ _, ?_, .str _ _ (by simp [gB, b1])⟩
       have e1 : min lo (i.sh + o) = i.sh + Nat.min flo o := by rw [hl1]; show min _ _ = _ + min _ _; omega
       have e2 : max hi (i.sh + o + (n + 1)) = i.sh + Nat.max fhi (o + (n + 1)) := by rw [hl2]; show max _ _ = _ + max _ _; omega
       rw [e1, e2] at hthis
       exact k.turn b i _ _ _ _ hb p3 hg (by simp) hother hthis (.cells _ _ _ _ _ _ _ _ _ _ p2 p3 p4 p5 p6 p7 (fun _ => ⟨fun j _ => by omega, fun _ => ⟨fun hc => by
        exfalso
        have h1 : Nat.min flo o ≤ o := Nat.min_le_right _ _
        have h2 : o + (n + 1) ≤ Nat.max fhi (o + (n + 1)) := Nat.le_max_right _ _
        omega, fun _ => ⟨rfl, rfl⟩⟩⟩)) hsize hrest
     ·trivial
    ·trivial
   ·trivial
  ·trivial
 ·trivial
end
end Go.Ev
end
noncomputable section
namespace Go.Ev
open Go.RowKit (Below)
def sG (E : Env) (μ : Mu) : Prop := ∀ g, g < E.ng → ∃ i, μ g = some i ∧ i.r = g ∧ i.sh = 0
theorem sG.mono {E : Env} {μ μ' : Mu} (h : Ext μ μ') (k : sG E μ) : sG E μ' := fun g hg => let ⟨i, h1, h2⟩ := k g hg; ⟨i, h _ _ h1, h2⟩
structure jU (P : Program) (E : Env) (f n e : Nat) (fn : Func) (g : Array Value → Sem Value) : Prop where
 at_ : P.funcs[f]? = some fn
 name : (fn.name == "runtime.NumGoroutine") = false
 body : fn.body.isNone = true
 next : Extern.findNext fn = none
 find : Extern.find fn = some g
 r1 : n = 1 → g = Extern.BytealgIndexByte.indexByte
 r2 : n = 2 → g = Extern.BytealgCount.count
 r3 : n = 3 → g = Extern.AbiNoEscape.same
 r4 : n = 4 → ∃ ps t, g = Extern.BytealgMakeNoZero.makeNoZero ps #[t] ∧ P.underlying t = some (.slice e) ∧ (∀ ti, E.ty.get e = some ti → ti.size = 1)
 r5 : n = 5 → g = Extern.BytealgIndex.index ∧ e < E.ng ∧ P.globals.findIdx? (·.name == "internal/bytealg.MaxLen") = some e
section
variable {P : Program} {E : Env} {base : Nat} {w0 : World} {μ : Mu} {h : H} {w : World}
theorem yX (c : UInt8) : ∀ (l : List UInt8) (i : Nat), xK c.toNat (l.map UInt8.toNat) i = if Lib.indexByte l c = -1 then -1 else (i : Int) + Lib.indexByte l c
 | [], i => by simp [xK, Lib.indexByte]
 | x :: l, i => by
  simp only [List.map_cons, xK, fq, Lib.indexByte]
  by_cases h : x = c
  ·subst h; simp
  ·have hne : ¬ x.toNat = c.toNat := fun e => h (UInt8.toNat_inj.1 e)
   have hge := Lib.indexByte_ge l c
   simp only [hne, decide_false, cond_false, beq_iff_eq, h, if_false]
   rw [yX c l (i + 1)]
   by_cases h1 : Lib.indexByte l c = -1
   ·simp [h1]
   ·have h2 : ¬ (Lib.indexByte l c + 1 = -1) := by omega
    simp only [h1, if_false, h2]
    omega
theorem lY (c : UInt8) : ∀ (l : List UInt8) (n : Nat), dL c.toNat (l.map UInt8.toNat) n = n + Lib.countByte l c
 | [], n => by simp [dL, Lib.countByte]
 | x :: l, n => by
  simp only [List.map_cons, dL, fq]
  rw [lY c l]
  unfold Lib.countByte
  rw [List.count_cons]
  by_cases h : x = c
  ·subst h; simp; omega
  ·have hne : ¬ x.toNat = c.toNat := fun e => h (UInt8.toNat_inj.1 e)
   simp [h, hne]
theorem cag : ∀ (a b : List UInt8), tX (a.map UInt8.toNat) (b.map UInt8.toNat) = a.isPrefixOf b
 | [], b => by simp [tX]
 | x :: a, [] => by simp [tX]
 | x :: a, y :: b => by
  simp only [List.map_cons, tX, fq, List.isPrefixOf, cag a b]
  by_cases h : x = y
  ·subst h; simp
  ·have hne : ¬ x.toNat = y.toNat := fun e => h (UInt8.toNat_inj.1 e)
   simp [h, hne]
theorem naa (b : List UInt8) (hb : b ≠ []) : ∀ (l : List UInt8) (i : Nat), xR (b.map UInt8.toNat) (l.map UInt8.toNat) i = if Lib.index l b = -1 then -1 else (i : Int) + Lib.index l b
 | [], i => by
  have : b.isEmpty = false := by cases b <;> simp_all
  simp [xR, Lib.index, this]
 | x :: l, i => by
  have e : tX (b.map UInt8.toNat) ((x :: l).map UInt8.toNat) = b.isPrefixOf (x :: l) := cag b (x :: l)
  simp only [List.map_cons] at e
  simp only [List.map_cons, xR, e, Lib.index]
  by_cases hp : b.isPrefixOf (x :: l) = true
  ·simp [hp]
  ·have hp : b.isPrefixOf (x :: l) = false := eq_false_of_ne_true hp
   have hge := Lib.index_ge l b
   simp only [hp, cond_false, Bool.false_eq_true, if_false, beq_iff_eq]
   rw [naa b hb l (i + 1)]
   by_cases h1 : Lib.index l b = -1
   ·simp [h1]
   ·have h2 : ¬ (Lib.index l b + 1 = -1) := by omega
    simp only [h1, if_false, h2]
    omega
theorem tak (k : yg E base w0 μ h w) (G : sG E μ) {f n e : Nat} {fn : Func} {g : Array Value → Sem Value} (X : jU P E f n e fn g) {args : List V} {rargs : Array Value} (ha : ae μ args rargs.toList) :
  il E base w0 μ h (rV n e args h) ((g rargs).run P w) := by
 obtain ⟨rl⟩ := rargs
 simp only at ha
 unfold rV
 split
 ·
  rename_i m
  obtain ⟨ps, t, rfl, ht, hsz⟩ := X.r4 rfl
  cases ha with
  | cons _ _ _ _ h1 hl =>
  cases hl
  cases h1
  cases g1 : Nat.ble m 1000000 with
  | false => trivial
  | true =>
  rw [bu, decide_eq_true_eq] at g1
  simp only [cond_true]
  obtain ⟨cs, c1, c2, _⟩ := Lib.run_makeNoZero (P := P) w ps t e ht m (by omega)
  let j : Info := ⟨w.heap.size, 0, false, cs.size, 1, false, nofun⟩
  have hext : Ext μ (μ.upd h.next j) := Ext.upd (k.nxt _ (Nat.le_refl _)).2
  refine ⟨μ.upd h.next j, _, _, c1, sj.upd (k.nxt _ (Nat.le_refl _)).2, k.drew.drew.alloc _ _ j rfl ?_ rfl, ?_⟩
  ·exact .cells _ e true false 0 0 false cs 0 0 rfl rfl (fun t h' => hsz t h') (by simp [j]) (by simpa using ae.nil) (fun hc => by cases hc) (fun _ => ⟨fun j _ => by simp, fun _ => ⟨fun _ => rfl, fun h => absurd rfl h⟩⟩)
  ·exact .slU _ 0 _ _ j (Mu.upd_same _ _ _) c2 (.inr (by simp [j]))
 ·
  rename_i a b
  obtain ⟨rfl, hng, hgl⟩ := X.r5 rfl
  cases ha with
  | cons _ _ _ _ h1 hl =>
  cases hl with
  | cons _ _ _ _ h2 hl =>
  cases hl
  cases h1 with
  | str _ ra hra => cases h2 with
   | str _ rb hrb =>
   split
   ·rename_i m hm
    obtain ⟨i, hi, hir, hish⟩ := G e hng
    obtain ⟨rv, hv, hcell⟩ := k.rd1 hi hm
    cases hv
    cases g1 : Nat.ble 2 (av b 0) with
    | false => trivial
    | true =>
    cases g2 : Nat.ble (av b 0) m with
    | false => trivial
    | true =>
    cases g3 : Nat.blt (av a 0) 1000000 with
    | false => trivial
    | true =>
    rw [bu, decide_eq_true_eq, ll, Nat.add_zero, qp hrb] at g1 g2
    rw [au, decide_eq_true_eq, ll, Nat.add_zero, qp hra] at g3
    simp only [cond_true]
    rw [hir, hish] at hcell
    have hrun := Lib.run_indexString (P := P) ra rb w e m hgl (by simpa using hcell) g1 (by omega) (by omega)
    refine same k ?_ hrun
    have hne : rb.data.toList ≠ [] := fun hc => by
     have : rb.size = 0 := by show rb.data.size = 0; rw [← Array.length_toList, hc]; rfl
     omega
    have := naa rb.data.toList hne ra.data.toList 0
    rw [← hra, ← hrb]
    show ze μ (.int .i64 (xR (rb.data.toList.map UInt8.toNat) (ra.data.toList.map UInt8.toNat) 0)) _
    rw [this]
    by_cases h1 : Lib.index ra.data.toList rb.data.toList = -1
    ·rw [if_pos h1, h1]; exact .int _ _
    ·rw [if_neg h1]
     have : ((0 : Nat) : Int) + Lib.index ra.data.toList rb.data.toList = Lib.index ra.data.toList rb.data.toList := by simp
     rw [this]; exact .int _ _
   ·trivial
 ·
  rename_i s c
  have := X.r1 rfl
  subst this
  cases ha with
  | cons _ _ _ _ h1 hl =>
  cases hl with
  | cons _ _ _ _ h2 hl =>
  cases hl
  cases h2
  cases h1 with
  | str _ ra hra =>
  cases g1 : Nat.blt c 256 with
  | false => trivial
  | true =>
  rw [au, decide_eq_true_eq] at g1
  simp only [cond_true]
  refine same k ?_ (Lib.run_indexByteString ra c w)
  have hc : ((c : Int)).toNat.toUInt8.toNat = c := by simp; omega
  have := yX ((c : Int)).toNat.toUInt8 ra.data.toList 0
  rw [hc] at this
  rw [← hra]
  show ze μ (.int .i64 (xK c (ra.data.toList.map UInt8.toNat) 0)) _
  rw [this]
  by_cases h1 : Lib.indexByte ra.data.toList ((c : Int)).toNat.toUInt8 = -1
  ·rw [if_pos h1]
   show ze μ _ (.int .i64 (Lib.indexByte ra.data.toList ((c : Int)).toNat.toUInt8))
   rw [h1]
   exact .int _ _
  ·rw [if_neg h1]
   rw [Int.natCast_zero, Int.zero_add]
   exact .int _ _
 ·
  rename_i s c
  have := X.r2 rfl
  subst this
  cases ha with
  | cons _ _ _ _ h1 hl =>
  cases hl with
  | cons _ _ _ _ h2 hl =>
  cases hl
  cases h2
  cases h1 with
  | str _ ra hra =>
  cases g1 : Nat.blt c 256 with
  | false => trivial
  | true =>
  rw [au, decide_eq_true_eq] at g1
  simp only [cond_true]
  refine same k ?_ (Lib.run_countString ra c w)
  have hc : ((c : Int)).toNat.toUInt8.toNat = c := by simp; omega
  have := lY ((c : Int)).toNat.toUInt8 ra.data.toList 0
  rw [hc] at this
  rw [← hra]
  show ze μ (.int .i64 (.ofNat (dL c (ra.data.toList.map UInt8.toNat) 0))) _
  rw [this, Nat.zero_add]
  exact .int _ _
 ·
  have := X.r3 rfl
  subst this
  cases ha with
  | cons _ _ _ _ h1 hl =>
  cases hl
  exact same k h1 rfl
 ·trivial
end
end Go.Ev
end
noncomputable section
namespace Go.Ev
open Go.RowKit (Below)
def jF (P : Program) (E : Env) : Prop := ∀ f n e, E.ext.get f = some (n, e) → ∃ fn g, jU P E f n e fn g
section
variable {P : Program} {E : Env} {base : Nat} {w0 : World} {μ : Mu} {h : H} {w : World}
theorem ae.two {l1 l2 : V} {rl : List Value} (h : ae μ [l1, l2] rl) : ∃ a b, rl = [a, b] ∧ ze μ l1 a ∧ ze μ l2 b := by
 cases h with
 | cons _ a _ _ h1 h => cases h with
  | cons _ b _ _ h2 h => cases h; exact ⟨a, b, rfl, h1, h2⟩
theorem ae.one {l1 : V} {rl : List Value} (h : ae μ [l1] rl) : ∃ a, rl = [a] ∧ ze μ l1 a := by
 cases h with
 | cons _ a _ _ h1 h => cases h; exact ⟨a, rfl, h1⟩
theorem ae.head {l1 : V} {l : List V} {rl : List Value} (h : ae μ (l1 :: l) rl) : ∃ a r, rl = a :: r ∧ ze μ l1 a ∧ ae μ l r := by
 cases h with
 | cons _ a _ r h1 h => exact ⟨a, r, rfl, h1, h⟩
theorem xy {α : Type} {a : Array α} {l : List α} (h : a.toList = l) : a = l.toArray := by rw [← h, Array.toArray_toList]
theorem qah (K : yh P E) (k : yg E base w0 μ h w) {b : Builtin} {ts : Array Nat} {ty : Nat} {cs : Array Bool} {xs : List V} {rxs : Array Value} (hx : ae μ xs rxs.toList) :
  Got E base w0 μ h (eF E b ts.toList xs h) ((builtin b ts ty cs rxs).run P w) := by
 unfold eF
 split
 ·rename_i t tr x xr ht
  obtain ⟨a, r, h1, h2, h3⟩ := ae.head hx
  refine il.next (il.ofO k fun v hv => ?_)
  exact bax K k h2 hv (by rw [xy ht]; rfl) (by rw [xy h1]; rfl)
 ·rename_i t tr x xr ht
  obtain ⟨a, r, h1, h2, h3⟩ := ae.head hx
  refine il.next (il.ofO k fun v hv => ?_)
  exact cax K h2 hv (by rw [xy ht]; rfl) (by rw [xy h1]; rfl) w
 ·rename_i t tx s x ht
  obtain ⟨a, b, h1, h2, h3⟩ := ae.two hx
  rw [xy ht, xy h1]
  exact il.next (nak K k h2 h3)
 ·rename_i td tx d x ht
  obtain ⟨a, b, h1, h2, h3⟩ := ae.two hx
  rw [xy ht, xy h1]
  exact il.next (gat K k h2 h3)
 ·rename_i t tr m q xr ht
  obtain ⟨a, r, h1, h2, h3⟩ := ae.head hx
  obtain ⟨b, r', rfl, h4, h5⟩ := ae.head h3
  exact il.next (lak K k h2 h4 (by rw [xy ht]; rfl) (by rw [xy h1]; rfl) (by rw [xy h1]; rfl))
 ·rename_i t tr x xr ht
  obtain ⟨a, r, h1, h2, h3⟩ := ae.head hx
  exact il.next (vao K k h2 (by rw [xy ht]; rfl) (by rw [xy h1]; rfl))
 ·refine il.next (il.ofO k fun v hv => ?_)
  obtain ⟨rx, rt, rz, h1, h2, h3⟩ := yY (P := P) hav Builtin.min2 (fun _ _ _ _ _ w a b c => gav a b c w) hx hv w
  exact ⟨rz, by simp only [Builtin.min_, h1]; exact h2, h3⟩
 ·refine il.next (il.ofO k fun v hv => ?_)
  obtain ⟨rx, rt, rz, h1, h2, h3⟩ := yY (P := P) jav Builtin.max2 (fun _ _ _ _ _ w a b c => iav a b c w) hx hv w
  exact ⟨rz, by simp only [Builtin.max_, h1]; exact h2, h3⟩
 ·obtain ⟨a, h1, h2⟩ := ae.one hx
  rw [xy h1]
  exact il.next (lL k h2 _ _)
 ·rename_i t tn p n ht
  obtain ⟨a, b, h1, h2, h3⟩ := ae.two hx
  rw [xy ht, xy h1]
  exact il.next (sS K k h2 h3)
 ·exact ⟨w, rfl, k⟩
 ·obtain ⟨a, r, h1, h2, h3⟩ := ae.head hx
  split
  ·rename_i t v
   cases h2 with
   | iface _ _ v' hv =>
   refine ⟨.iface t v', w, ?_, k, .iface t v v' hv⟩
   rw [xy h1]
   rfl
  ·trivial
 ·trivial
theorem raj : ∀ (ps : List Nat) (as : List V) (tm : List V) (ras : List Value) (rtm : Array Value), ae μ as ras → ae μ tm rtm.toList → ae μ (rq.go ps as tm) ((ps.zip ras).foldl (fun (tmps : Array Value) (p : Nat × Value) => tmps.setIfInBounds p.1 p.2) rtm).toList
 | [], as, tm, ras, rtm, _, ht => by simpa [rq.go] using ht
 | p :: ps, [], tm, ras, rtm, h, ht => by cases h; simpa [rq.go] using ht
 | p :: ps, a :: as, tm, _, rtm, .cons _ ra _ ras h1 h2, ht => by
  simp only [rq.go, List.zip_cons_cons, List.foldl_cons]
  refine raj ps as _ ras _ h2 ?_
  rw [Array.toList_setIfInBounds]
  exact set_rel ht h1 p
 where
 set_rel {l : List V} {l' : List Value} {v : V} {rv : Value} (hl : ae μ l l') (hv : ze μ v rv) : ∀ n, ae μ (zz l n v) (l'.set n rv) := by
  induction l generalizing l' with
  | nil => intro n; cases hl; simp [eX, qR, rR]; exact .nil
  | cons x l ih =>
   intro n
   cases hl with
   | cons _ y _ l' h1 h2 => cases n with
    | zero => exact .cons _ _ _ _ hv h2
    | succ n => exact .cons _ _ _ _ h1 (ih h2 n)
theorem yg.loop (k : yg E base w0 μ h w) {b : Nat} {i : Info} {l : Lp} (hb : μ b = some i) (hg : h.get b = some (.loop l)) : ∃ l', w.heap[i.r]? = some (.loop l') ∧ lZ μ l l' ∧ i.sh = 0 ∧ i.ro = false := by
 obtain ⟨o', h1, h2⟩ := k.ob b i _ hb hg
 cases h2 with
 | loop _ l' g1 g2 g3 => exact ⟨l', h1, g3, g1, g2⟩
theorem uN (K : yh P E) (X : jF P E) (G : sG E μ) (k : yg E base w0 μ h w) {fn rfn : Fn} {cap args : List V} {rcap rargs : Array Value} (hf : zF μ fn rfn) (hc : ae μ cap rcap.toList) (ha : ae μ args rargs.toList) :
  Got E base w0 μ h (rq E fn cap args h) ((invoke (.fn rfn rcap) rargs).run P w) := by
 unfold rq
 split
 ·rename_i f
  cases hf
  have hall : ae μ (gy args cap) (rargs ++ rcap).toList := by
   rw [Array.toList_append]; exact ha.append hc
  split
  ·rename_i n e he
   obtain ⟨fn, g, hX⟩ := X f n e he
   have hrun := run_callFunc_extern hX.at_ hX.name hX.body hX.next hX.find (rargs ++ rcap) w
   have := tak k G hX hall
   show Got E base w0 μ h _ ((callFunc f (rargs ++ rcap)).run P w)
   rw [hrun]
   have hn := il.next (P := P) this
   rw [Sem.run_bind] at hn
   exact hn
  ·split
   ·rename_i fn hfn
    obtain ⟨h1, h2, h3⟩ := K.fn f fn hfn
    refine ⟨rargs ++ rcap, w, ?_, k, hall⟩
    show (callFunc f (rargs ++ rcap)).run P w = _
    have hn : fn.name ≠ "runtime.NumGoroutine" := by simpa using h3
    have hb : fn.body.isNone = false := h2
    simp only [callFunc, Sem.run_bind, run_program, Result.andThen_ok, h1, h3, Bool.false_eq_true, if_false, hb, Sem.run_pure]
   ·trivial
 ·rename_i l
  split
  ·rename_i r hg
   cases hf with
   | yield _ i hi =>
   obtain ⟨l', g1, g2, g3, g4⟩ := k.loop hi hg
   have hgo := uj (P := P) g1 (fun _ _ _ hc => by cases hc)
   cases hlen : Nat.beq (av args 0) (av r.params 0) with
   | false => trivial
   | true =>
   rw [fq, decide_eq_true_eq, ll, ll, Nat.add_zero, Nat.add_zero, ha.length, g2.params] at hlen
   simp only [cond_true]
   have hne : ¬ (rargs.size ≠ l'.params.size) := by simpa using hlen
   have hrel := raj r.params args r.tmps rargs.toList l'.tmps ha g2.tmps
   refine ⟨i, (l'.params.zip rargs).foldl (fun tmps (t, a) => tmps.setIfInBounds t a) l'.tmps, w, ?_, k, hi, ?_⟩
   ·show (Instr.yield i.r rargs).run P w = _
    simp only [Instr.yield, Instr.getLoop, Sem.run_bind, hgo, Result.andThen_ok, Sem.run_pure, if_neg hne, g2.fn, g2.assign, g2.body]
   ·rw [← Array.foldl_toList, Array.toList_zip]
    rw [g2.params] at hrel ⊢
    exact hrel
  ·trivial
 ·trivial
theorem wat (K : yh P E) (X : jF P E) (G : sG E μ) (k : yg E base w0 μ h w) {tm : List V} {c : Call} {ty : Nat} {ρ : Operand → Value} (hx : ∀ x ∈ c.operands, ze μ (ev E tm x) (ρ x)) :
  Got E base w0 μ h (dab E tm c h) ((do let d ← resolve ρ c ty; invoke d.target d.args : Sem Next).run P w) := by
 have hargs : ae μ (evs E tm c.args.toList) (c.args.map ρ).toList := by
  rw [Array.toList_map]
  exact xP _ fun x hm => hx x (Array.mem_append.2 (.inr (Array.mem_toList_iff.1 hm)))
 unfold dab
 split
 ·rename_i b hc
  have := qah (P := P) K k (b := b) (ts := c.argTypes) (ty := ty) (cs := c.args.map fun | .const _ => true | _ => false) hargs
  simp only [resolve, hc, Sem.run_bind, Sem.run_pure, Result.andThen_ok, invoke]
  exact this
 ·trivial
 ·rename_i f hc
  have hf := hx f (by simp [Call.operands, hc])
  split
  ·rename_i fn first cap hv
   rw [hv] at hf
   generalize hr : ρ f = rf at hf
   cases hf with
   | func _ g _ _ a' b' hfn h1 h2 =>
   have := uN K X G k hfn h2 (args := gy first (evs E tm c.args.toList)) (rargs := a' ++ c.args.map ρ) (by rw [Array.toList_append]; exact h1.append hargs)
   simp only [resolve, hc, hr, Deferred.ofValue, Sem.run_bind, Sem.run_pure, Result.andThen_ok]
   exact this
  ·trivial
theorem eap (k : yg E base w0 μ h w) {tm : List V} {c : Call} {ty : Nat} {ρ : Operand → Value} (hx : ∀ x ∈ c.operands, ze μ (ev E tm x) (ρ x)) :
  Got E base w0 μ h (oG E tm c h) ((do pure (.defer (← resolve ρ c ty)) : Sem Next).run P w) := by
 have hargs : ae μ (evs E tm c.args.toList) (c.args.map ρ).toList := by
  rw [Array.toList_map]
  exact xP _ fun x hm => hx x (Array.mem_append.2 (.inr (Array.mem_toList_iff.1 hm)))
 unfold oG
 split
 ·rename_i f hc
  have hf := hx f (by simp [Call.operands, hc])
  split
  ·rename_i fn first cap hv
   rw [hv] at hf
   generalize hr : ρ f = rf at hf
   cases hf with
   | func _ g _ _ a' b' hfn h1 h2 =>
   refine ⟨{ target := .fn g b', args := a' ++ c.args.map ρ }, w, ?_, k, .call _ _ _ _ _ _ hfn h2 (by rw [Array.toList_append]; exact h1.append hargs)⟩
   simp only [resolve, hc, hr, Deferred.ofValue, Sem.run_bind, Sem.run_pure, Result.andThen_ok]
  ·trivial
 ·trivial
theorem Got.unit {r : Res} {s : Sem Unit} (hs : ∀ h', r = .skip h' → ∃ w', s.run P w = .ok () w' ∧ yg E base w0 μ h' w') (hr : (∃ h', r = .skip h') ∨ ∃ n, r = .fail n) : Got E base w0 μ h r ((do s; pure .skip : Sem Next).run P w) := by
 rcases hr with ⟨h', rfl⟩ | ⟨n, rfl⟩
 ·obtain ⟨w', h1, h2⟩ := hs h' rfl
  exact ⟨w', by rw [Sem.run_bind, h1]; rfl, h2⟩
 ·trivial
theorem yM (o : Option H) (n : Nat) : (∃ h', wW o n = .skip h') ∨ ∃ m, wW o n = .fail m := by cases o <;> simp [wW]
set_option maxHeartbeats 1000000 in
theorem jat (K : yh P E) (X : jF P E) (G : sG E μ) (k : yg E base w0 μ h w) {tm : List V} {o : Oper} {ρ : Operand → Value} (hx : ∀ x ∈ o.op.operands, ze μ (ev E tm x) (ρ x)) :
  Got E base w0 μ h (aop E tm o.op h) ((execOp ρ o).run P w) := by
 obtain ⟨dst, op, type, pos, after, guard⟩ := o
 simp only at hx ⊢
 unfold aop
 cases op with
 | move x => exact ⟨μ, ρ x, w, rfl, sj.refl _ _, k, hx x (by simp [Op.operands])⟩
 | assign x => exact ⟨μ, ρ x, w, rfl, sj.refl _ _, k, hx x (by simp [Op.operands])⟩
 | pick c a b =>
  have hc := hx c (by simp [Op.operands])
  have ha := hx a (by simp [Op.operands])
  have hb := hx b (by simp [Op.operands])
  show Got E base w0 μ h (iU E tm c a b h) _
  unfold iU
  split
  ·rename_i hv
   rw [hv] at hc
   generalize hr : ρ c = rc at hc
   cases hc
   exact ⟨μ, ρ a, w, by simp [execOp, hr, asBool], sj.refl _ _, k, ha⟩
  ·rename_i hv
   rw [hv] at hc
   generalize hr : ρ c = rc at hc
   cases hc
   exact ⟨μ, ρ b, w, by simp [execOp, hr, asBool], sj.refl _ _, k, hb⟩
  ·trivial
 | alloc t =>
  show Got E base w0 μ h (fF E t h) _
  unfold fF
  split
  ·rename_i i ht
   exact il.next (qat K k ht)
  ·trivial
 | box t x =>
  show Got E base w0 μ h (eae E tm t x h) _
  unfold eae
  split
  ·exact il.next (daK k t (hx x (by simp [Op.operands])))
  ·trivial
 | build t ps =>
  have hp := mV (E := E) (μ := μ) (tm := tm) (ρ := ρ) ps.toList (fun p hp => hx p.2 (by simp [Op.operands]; exact ⟨p.1, by simpa using hp⟩))
  refine il.next (il.ofO k fun v hv => ?_)
  have e : ps.map (fun (i, x) => (i, ρ x)) = (ps.toList.map fun (i, x) => (i, ρ x)).toArray := by rw [← Array.toList_map, Array.toArray_toList]
  rw [e]
  exact qao K μ hp hv w
 | buildSlice t n ps =>
  have hp := mV (E := E) (μ := μ) (tm := tm) (ρ := ρ) ps.toList (fun p hp => hx p.2 (by simp [Op.operands]; exact ⟨p.1, by simpa using hp⟩))
  have e : ps.map (fun (i, x) => (i, ρ x)) = (ps.toList.map fun (i, x) => (i, ρ x)).toArray := by rw [← Array.toList_map, Array.toArray_toList]
  show Got E base w0 μ h (uq E tm t n ps h) _
  unfold uq
  split
  ·rename_i cs e' hb
   have := rao (P := P) K k hp hb
   rw [← e] at this
   exact il.next this
  ·trivial
 | load t a =>
  refine il.next (il.ofO k fun v hv => ?_)
  obtain ⟨rv, ad, h1, h2, h3⟩ := qaf (P := P) K k (hx a (by simp [Op.operands])) hv
  exact ⟨rv, by simp [Instr.loadAt, h1, Instr.sureAddr, h2], h3⟩
 | store t a x =>
  refine Got.unit (fun h' hs => ?_) (yM _ _)
  cases ho : storeT E t (ev E tm a) (ev E tm x) h with
  | none => simp [nG, ho, wW] at hs
  | some h2 =>
   simp only [nG, ho, wW, Res.skip.injEq] at hs
   subst hs
   exact vam K k (hx a (by simp [Op.operands])) (hx x (by simp [Op.operands])) ho
 | nilCheck x => exact xad k (hx x (by simp [Op.operands])) rfl
 | binOp op t x y u =>
  have h1 := hx x (by simp [Op.operands])
  have h2 := hx y (by simp [Op.operands])
  show Got E base w0 μ h (zS E tm op t x y h) _
  unfold zS
  split
  ·trivial
  ·rename_i v hb
   cases hq : wR op with
   | true =>
    cases hg : nC E t x y (ev E tm x) (ev E tm y) with
    | true =>
     obtain ⟨rv, g1, g2⟩ := dam (P := P) K k h1 h2 hb (fun _ => hg) w
     exact il.next (same k g2 g1)
    | false => trivial
   | false =>
    obtain ⟨rv, g1, g2⟩ := dam (P := P) K k h1 h2 hb (fun hc => by rw [hq] at hc; cases hc) w
    exact il.next (same k g2 g1)
 | unOp op t x =>
  refine il.next (il.ofO k fun v hv => ?_)
  exact naI (hx x (by simp [Op.operands])) hv w
 | convert s d x => exact il.next (pah K k (hx x (by simp [Op.operands])))
 | makeInterface t x => exact il.next (kQ K k (hx x (by simp [Op.operands])))
 | makeFunc fn a b => exact il.next (zad k (fun x hm => hx x (by simp [Op.operands]; exact .inl (by simpa using hm))) (fun x hm => hx x (by simp [Op.operands]; exact .inr (by simpa using hm))))
 | makeMap t r => exact il.next (mah K k (fun x hm => hx x (by simp [Op.operands, hm])))
 | makeSlice t l c => exact il.next (o7 K k (hx l (by simp [Op.operands])) (hx c (by simp [Op.operands])))
 | slice t x lo hi mx =>
  exact il.next (aap K k (hx x (by simp [Op.operands])) (fun y hm => hx y (by simp [Op.operands, hm])) (fun y hm => hx y (by simp [Op.operands, hm])) (fun y hm => hx y (by simp [Op.operands, hm])))
 | fieldAddr s x f => exact il.next (il.ofO k fun v hv => j5 K (hx x (by simp [Op.operands])) hv w)
 | field s x f => exact il.next (il.ofO k fun v hv => iao K (hx x (by simp [Op.operands])) hv w)
 | indexAddr t x i => exact il.next (il.ofO k fun v hv => xZ K (hx x (by simp [Op.operands])) (hx i (by simp [Op.operands])) hv w)
 | index t x i => exact il.next (il.ofO k fun v hv => yan K (hx x (by simp [Op.operands])) (hx i (by simp [Op.operands])) hv w)
 | lookup t x i ok => exact il.next (sak K k (hx x (by simp [Op.operands])) (hx i (by simp [Op.operands])))
 | mapUpdate t m q x =>
  show Got E base w0 μ h (lq E tm t m q x h) _
  unfold lq
  split
  ·rename_i kt et hd
   have hu := K.desc hd (by simp)
   refine Got.unit (fun h' hs => ?_) (yM _ _)
   cases ho : saq E kt (ev E tm m) (ev E tm q) (ev E tm x) h with
   | none => simp [ho, wW] at hs
   | some h2 =>
    simp only [ho, wW, Res.skip.injEq] at hs
    subst hs
    exact eal K k hu (hx m (by simp [Op.operands])) (hx q (by simp [Op.operands])) (hx x (by simp [Op.operands])) ho
  ·trivial
 | insert t m q x =>
  show Got E base w0 μ h (lq E tm t m q x h) _
  unfold lq
  split
  ·rename_i kt et hd
   have hu := K.desc hd (by simp)
   refine Got.unit (fun h' hs => ?_) (yM _ _)
   cases ho : saq E kt (ev E tm m) (ev E tm q) (ev E tm x) h with
   | none => simp [ho, wW] at hs
   | some h2 =>
    simp only [ho, wW, Res.skip.injEq] at hs
    subst hs
    exact eal K k hu (hx m (by simp [Op.operands])) (hx q (by simp [Op.operands])) (hx x (by simp [Op.operands])) ho
  ·trivial
 | mapEntry t m q => exact il.next (yad K k (hx m (by simp [Op.operands])) (hx q (by simp [Op.operands])))
 | entryStore t m s x =>
  refine Got.unit (fun h' hs => eZ k (hx m (by simp [Op.operands])) (hx s (by simp [Op.operands])) (hx x (by simp [Op.operands])) hs) ?_
  show (∃ h', ou E tm m s x h = .skip h') ∨ ∃ n, ou E tm m s x h = .fail n
  unfold ou
  repeat' split
  all_goals first | exact .inl ⟨_, rfl⟩ | exact .inr ⟨_, rfl⟩
 | range t x => exact il.next (bap K k (hx x (by simp [Op.operands])))
 | next it s => exact il.next (vat k (hx it (by simp [Op.operands])) type)
 | entry it => exact il.next (dap k (hx it (by simp [Op.operands])))
 | typeAssert x xt a ok => exact il.next (dZ K k (hx x (by simp [Op.operands])))
 | extract t i => exact il.next (oah k (hx t (by simp [Op.operands])))
 | call c => exact wat K X G k (fun x hm => hx x (by simpa [Op.operands] using hm))
 | defer c => exact eap k (fun x hm => hx x (by simpa [Op.operands] using hm))
 | panic x =>
  have h1 := hx x (by simp [Op.operands])
  show Got E base w0 μ h (yS E tm x h) _
  unfold yS
  split
  ·rename_i t v hv
   rw [hv] at h1
   generalize hr : ρ x = rx at h1
   cases h1 with
   | iface _ _ v' hv' =>
   exact ⟨.iface t v', w, by simp [execOp, hr, Instr.panic], k, .iface t v v' hv'⟩
  ·trivial
 | _ => trivial
end
end Go.Ev
end
