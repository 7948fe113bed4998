/- Operations that turn memory, computed: new rows, rows put together, calls. -/
import Derived.Test.YtikaonfnaobciaaVd
namespace Go.Proofs.Ytikaonfnaobciaa
open Go.RowKit
set_option linter.unusedVariables false
set_option linter.unusedSimpArgs false

section
variable {P : Program} {T : Tr} {N : Nat} {E : SEnv} {D : List Nat} {H : Heap} {w0 : World} {X : List Nat} {L : List (Nat × Obj)} {r : Option Nat}
variable {ty : TypeId} {pos : String} {aft : Array Edge} {dst : Option Tmp} {g : Option (Nat × Bool)} {K : Act → World → Prop}

theorem zv_info {e : Nat} {y : TInf} {z : SV} (ht : TOk P e y) (hz : y.zero = some z) : ∃ i, P.info? e = some i ∧ i.size = y.size ∧ i.bytes = y.bytes ∧ i.zero = some z.val := by
  have h1 := ht.sz.h; have h2 := ht.bt.h; have h3 := (ht.zv z hz).h
  cases hq : P.info? e with
  | none => simp [hq] at h1
  | some i => simp [hq] at h1 h2 h3; exact ⟨i, rfl, h1, h2, h3⟩

theorem makeSlice_ok {t d : Nat} {y : Nat × TInf} {z : SV} {xl xc : Operand} {q q' : IntKind} {l c : Int} (hT : T.All P) (hs : sliceT T t = some y) (hz : y.2.zero = some z) (hf : z.fitB = true) (hcs : z.cs.length = y.2.size) (hd : Nat.blt d N = true) (hL : HR w0 X H L)
    (hl : ev (venv E) xl = some (SV.int q l).val) (hc : ev (venv E) xc = some (SV.int q' c).val) (h0 : 0 ≤ l ∧ l ≤ c) (hb : (y.2.bytes : Int) * c ≤ 281474976710656 ∧ c ≤ 281474976710656)
    (hk : ∀ b, VSt N w0 X ((d, .sl d (some ⟨b, 0, none⟩) y.2.size none l.toNat c.toNat) :: E) ((d, .row true (some ⟨b, 0, none⟩) y.2.size y.1 l.toNat c.toNat (fun _ => z)) :: H) D K) :
    St N (venv E) D ⟨w0, X, L, D⟩ (Op1 P r ⟨some d, .makeSlice t xl xc, ty, pos, aft, g⟩ K) := fun a w ha hw => by
  obtain ⟨hu, ht⟩ := sliceT_ok hT hs
  obtain ⟨i, hi, his, hib, hiz⟩ := zv_info ht hz
  have hrun := run_make (P := P) w t y.1 i z.val hu.h hi hiz q q' l c h0.1 h0.2 (by rw [hib]; exact hb.1) (by omega)
  have hcells : madeCells z.val.cells (c.toNat * i.size) = (zrow c.toNat (SV.vals z.cs)).toArray := by
    rw [SV.fit_cells (SV.fitB_ok hf), his, ← hcs, ← vals_length z.cs, ← zeroRow_eq]
    unfold zeroRow madeCells; exact Array.ext' (by simp)
  have hexec : (execOp a.eval ⟨some d, .makeSlice t xl xc, ty, pos, aft, g⟩).run P w = .ok (.value (.slice (some ⟨w.heap.size, 0, none⟩) l.toNat c.toNat)) (w.alloc (.cells (zrow c.toNat (SV.vals z.cs)).toArray y.1)) := by
    rw [← hcells]
    simp [execOp, ha.ev hl, ha.ev hc, SV.val, hrun]
  unfold Op1
  rw [hexec]
  have hrow : OwnRow (some ⟨w.heap.size, 0, none⟩) y.2.size y.1 l.toNat c.toNat (fun _ => z) [(w.heap.size, .cells (zrow c.toNat (SV.vals z.cs)).toArray y.1 (0, 0))] := by
    refine .inr ⟨_, _, rfl, rfl, ?_, by omega, by simp only [maxLen]; omega, fun j hj => ⟨?_, hcs⟩⟩
    · rw [zrow_flat, flatN_length (n := y.2.size) fun j _ => by rw [vals_length]; exact hcs]
    · rw [zrow_flat]; exact flatN_piece (fun j _ => by rw [vals_length]; exact hcs) j (by omega)
  exact hk w.heap.size _ (.cons (.own hrow) hL) _ _ (ha.put _ (by simpa using hd)) (hw.alloc _)

theorem buildSlice_ok {t d len : Nat} {y : Nat × TInf} {z : SV} {ps : List (Nat × Operand)} {k : List SV → Prop} (hT : T.All P) (hs : sliceT T t = some y) (hz : y.2.zero = some z) (hf : z.fitB = true) (hcs : z.cs.length = y.2.size) (hd : Nat.blt d N = true) (hL : HR w0 X H L)
    (hpos : Nat.blt 0 (len * y.2.size) = true) (hmax : Nat.ble (len * y.2.size) 16777216 = true) (hag : y.2.agg = true ∨ y.2.size = 1)
    (h : fillS ((List.range len).map fun k => (k * y.2.size, y.2.size)) E ps (zrowS len z.cs) fun l => SV.ones l ∧ k l)
    (hk : ∀ l b, k l → VSt N w0 X ((d, .sl d (some ⟨b, 0, none⟩) y.2.size none len len) :: E) ((d, .row true (some ⟨b, 0, none⟩) y.2.size y.1 len len (chunk y.2.agg y.2.size l)) :: H) D K) :
    St N (venv E) D ⟨w0, X, L, D⟩ (Op1 P r ⟨some d, .buildSlice t len ps.toArray, ty, pos, aft, g⟩ K) := by
  obtain ⟨hu, ht⟩ := sliceT_ok hT hs
  obtain ⟨l, pv, ⟨ho, hkl⟩, h1, h2⟩ := fillS_ok h
  rw [zrowS_vals] at h2
  have hfl : ∀ {pl : List (Nat × Nat)} {pv : List (Nat × Value)} {l l' : List Value}, Fills pl pv l l' → l'.length = l.length := by
    intro pl pv l l' hh
    induction hh with
    | nil => rfl
    | cons hp hv hl hs _ ih => rw [ih, ← hs.all, setAll_length]
  have hlen : l.length = len * y.2.size := by
    have := hfl h2
    rw [vals_length, zrow_flat, flatN_length (n := y.2.size) fun j _ => by rw [vals_length]; exact hcs] at this
    exact this
  have h3 : 0 < len * y.2.size := by simpa using hpos
  have h4 : len * y.2.size ≤ 16777216 := by simpa using hmax
  have h5 : 0 < y.2.size := Nat.pos_of_mul_pos_left h3
  have h6 : len ≤ len * y.2.size := Nat.le_mul_of_pos_right _ h5
  refine St.buildSlicev (u := hu) (hs := ht.sz) (zv := ht.zv z hz) (SV.fit_cells (SV.fitB_ok hf)) (by rw [vals_length]; exact hcs) hpos hmax h1 h2 hd fun b => ?_
  have hrow : OwnRow (some ⟨b, 0, none⟩) y.2.size y.1 len len (chunk y.2.agg y.2.size l) [(b, .cells (SV.vals l).toArray y.1 (0, 0))] := by
    refine .inr ⟨_, _, rfl, rfl, by rw [vals_length]; exact hlen, Nat.le_refl _, by simp only [maxLen]; omega, fun j hj => ?_⟩
    have hj2 : (j + 1) * y.2.size ≤ len * y.2.size := Nat.mul_le_mul_right _ hj
    rw [Nat.add_one_mul] at hj2
    rw [chunk_cs (hag.imp id fun e => ⟨e, ho⟩) (by omega)]
    refine ⟨by simp [vals_map, List.map_take, List.map_drop], by simp; omega⟩
  exact hk l b hkl _ (.cons (.own hrow) hL)

theorem buildSlice0_ok {t d : Nat} {y : Nat × TInf} {z : SV} (hT : T.All P) (hs : sliceT T t = some y) (hd : Nat.blt d N = true) (hL : HR w0 X H L)
    (hk : ∀ b, VSt N w0 X ((d, .sl d (some ⟨b, 0, none⟩) y.2.size none 0 0) :: E) ((d, .row true (some ⟨b, 0, none⟩) y.2.size y.1 0 0 (fun _ => z)) :: H) D K) :
    St N (venv E) D ⟨w0, X, L, D⟩ (Op1 P r ⟨some d, .buildSlice t 0 #[], ty, pos, aft, g⟩ K) := by
  obtain ⟨hu, ht⟩ := sliceT_ok hT hs
  have := Stp.buildSlice0 (P := P) (r := r) (N := N) (E := venv E) (D := D) (w0 := w0) (X := X) (L := L) (M := D) (d := d) (ty := ty) (pos := pos) (aft := aft) (g := g) (t := t) (u := hu) (hs := ht.sz) hd
  refine this K fun b _ => ?_
  exact hk b _ (.cons (.own (.inr ⟨b, [], rfl, rfl, by simp, Nat.le_refl _, by simp [maxLen], fun j hj => by omega⟩)) hL)

theorem fillS_mono : ∀ {ps : List (Nat × Operand)} {pl : List (Nat × Nat)} {z : List SV} {k1 k2 : List SV → Prop}, (∀ l, k1 l → k2 l) → fillS pl E ps z k1 → fillS pl E ps z k2
  | [], pl, z, k1, k2, hk, h => hk _ h
  | x :: r, pl, z, k1, k2, hk, h => by
    simp only [fillS, get1] at h ⊢
    split at h
    · split at h
      · exact h.elim
      · split at h
        · rw [nrm_iff] at h ⊢; exact fillS_mono hk h
        · exact h.elim
    · exact h.elim

theorem vbuildSlice_ok {t len d : Nat} {ps : List (Nat × Operand)} {k : SEnv → Heap → Prop} (hT : T.All P) (h : vbuildSlice T N t len d ps E H k) (hL : HR w0 X H L) (hk : ∀ E' H', k E' H' → VSt N w0 X E' H' D K) :
    St N (venv E) D ⟨w0, X, L, D⟩ (Op1 P r ⟨some d, .buildSlice t len ps.toArray, ty, pos, aft, g⟩ K) := by
  unfold vbuildSlice at h
  split at h
  · rename_i y hs
    split at h
    · rename_i z hz
      split at h
      · rename_i hf hcs hd
        have hcs := Nat.eq_of_beq_eq_true hcs
        split at h
        · split at h
          · exact buildSlice0_ok (z := z) hT hs hd hL fun b => hk _ _ (h b)
          · exact h.elim
        · rename_i len
          split at h
          · rename_i hpos hmax hag
            have hag' : y.2.agg = true ∨ y.2.size = 1 := by
              split at hag
              · left; assumption
              · right; exact Nat.eq_of_beq_eq_true hag
            have hpos' : Nat.blt 0 ((len + 1) * y.2.size) = true := by
              have : 0 < y.2.size := by simpa using hpos
              have := Nat.mul_pos (Nat.succ_pos len) this
              simpa using this
            refine buildSlice_ok (k := fun l => ∀ b, k ((d, .sl d (some ⟨b, 0, none⟩) y.2.size none (len + 1) (len + 1)) :: E) ((d, .row true (some ⟨b, 0, none⟩) y.2.size y.1 (len + 1) (len + 1) (chunk y.2.agg y.2.size l)) :: H)) hT hs hz hf hcs hd hL hpos' hmax hag' ?_ fun l b h => hk _ _ (h b)
            refine fillS_mono (fun l h => ?_) h
            split at h
            · rename_i ho
              rw [nrm_iff] at h
              exact ⟨SV.onesB_ok ho, h⟩
            · exact h.elim
          · exact h.elim
      · exact h.elim
    · exact h.elim
  · exact h.elim

theorem row_behind {n e len m cap : Nat} {f g : Nat → SV} {st : Option Nat} {cur xs : List Value} {news : List Value} (hc : cur.length = cap * n) (hle : len + m ≤ cap) (hxs : xs.length = len * n)
    (hx : ∀ j, j < len → (xs.drop (j * n)).take n = SV.vals (f j).cs ∧ (f j).cs.length = n) (hn : ∀ j, j < m → (news.drop (j * n)).take n = SV.vals (g (addn st j)).cs ∧ (g (addn st j)).cs.length = n)
    (ht : cur.take ((len + m) * n) = xs ++ news) (j : Nat) (hj : j < len + m) : (cur.drop (j * n)).take n = SV.vals (appF len f g st j).cs ∧ (appF len f g st j).cs.length = n := by
  have h1 : (j + 1) * n ≤ (len + m) * n := Nat.mul_le_mul_right _ hj
  rw [Nat.add_one_mul] at h1
  have e1 : (cur.drop (j * n)).take n = ((xs ++ news).drop (j * n)).take n := by
    rw [← ht]
    refine piece_ext fun i hi => ?_
    rw [List.getElem?_take, if_pos (by omega)]
  rw [e1]
  by_cases hl : j < len
  · have h2 : (j + 1) * n ≤ len * n := Nat.mul_le_mul_right _ hl
    rw [Nat.add_one_mul] at h2
    have : appF len f g st j = f j := by simp [appF, hl]
    rw [this]
    refine ⟨?_, (hx j hl).2⟩
    rw [← (hx j hl).1]
    refine piece_ext fun i hi => ?_
    rw [List.getElem?_append_left (by omega)]
  · have : appF len f g st j = g (addn st (j - len)) := by simp [appF, hl]
    rw [this]
    refine ⟨?_, (hn (j - len) (by omega)).2⟩
    rw [← (hn (j - len) (by omega)).1]
    have h3 : len * n + (j - len) * n = j * n := by rw [← Nat.add_mul]; congr 1; omega
    refine piece_ext fun i hi => ?_
    rw [List.getElem?_append_right (by omega)]; congr 1; omega

theorem RowOk.inv {e size n : Nat} {v : Value} {xs : List Value} {Lr : List (Nat × Obj)} (h : RowOk e size v n xs Lr) (hn : 0 < n) :
    ∃ b cap cur, v = .slice (some ⟨b, 0, none⟩) n cap ∧ Lr = [(b, .cells (cur : List Value).toArray e (0, 0))] ∧ cur.length = cap * size ∧ n ≤ cap ∧ cap ≤ maxLen ∧ cur.take (n * size) = xs := by
  cases h with
  | nil => omega
  | row h1 h2 h3 => exact ⟨_, _, _, rfl, rfl, h1, h2, h3, rfl⟩

theorem vapp_ok {t d n2 m c2 : Nat} {st2 : Option Nat} {p2 : Option Addr} {y : Nat × TInf} {z s : SV} {x yo : Operand} {gg : Nat → SV} {known : Prop} {k : SV → Heap → Prop} (hT : T.All P) (hs : sliceT T t = some y) (hz : y.2.zero = some z) (hzf : z.fitB = true) (hzl : z.cs.length = y.2.size) (hzp : 0 < y.2.size) (hn2 : n2 = y.2.size)
    (hkn : 0 < m → known → ∀ w, Wd ⟨w0, X, L, D⟩ w → RowAt w p2 n2 (stN st2 + m) gg) (h : vapp y z d s H n2 st2 m gg known k) (hL : HR w0 X H L) (hd : Nat.blt d N = true) (hx : ev (venv E) x = some s.val) (hy : ev (venv E) yo = some (.slice (advp p2 n2 st2) m c2))
    (hk : ∀ v H', k v H' → VSt N w0 X ((d, v) :: E) H' D K) :
    St N (venv E) D ⟨w0, X, L, D⟩ (Op1 P r ⟨some d, .call { callee := .builtin .append, args := #[x, yo], argTypes := #[t, t] }, ty, pos, aft, g⟩ K) := by
  obtain ⟨hu, ht⟩ := sliceT_ok hT hs
  obtain ⟨e, ti⟩ := y
  simp only at hz hzl hzp hn2 h hu ht
  have hzc : z.val.cells.size = ti.size := by rw [SV.fit_cells (SV.fitB_ok hzf)]; simp [vals_length, hzl]
  -- what is put behind
  have hnews : ∀ w, Wd ⟨w0, X, L, D⟩ w → 0 < m → known →
      (p2 = some ⟨pb p2, po p2, none⟩) ∧
      (∀ w, Wd ⟨w0, X, L, D⟩ w → ∀ i u, (flatN m fun j => SV.vals (gg (addn st2 j)).cs)[i]? = some u → w.cell? ((⟨pb p2, po p2 + stN st2 * n2, none⟩ : Addr).add i) = some u) ∧
      (∀ j, j < m → (gg (addn st2 j)).cs.length = n2) := by
    intro w hw hm hknown
    have hrow := hkn hm hknown
    refine ⟨(hrow w hw (stN st2) (by omega)).1, fun w hw i u hi => ?_, fun j hj => (hrow w hw (addn st2 j) (by rw [addn_eq]; omega)).2.2⟩
    have hr := fun j (hj : j < m) => hrow w hw (addn st2 j) (by rw [addn_eq]; omega)
    obtain ⟨j, q, hj, hq, rfl, hjq⟩ := flatN_get (n := n2) (fun j hj => by rw [vals_length]; exact (hr j hj).2.2) i u hi
    have := (hr j hj).2.1 q u hjq
    rw [Addr.add_none]
    rw [addn_eq, Nat.add_mul] at this
    rw [← this]; congr 2; omega
  unfold vapp at h
  split at h
  · rename_i i p n st len cap
    split at h
    · rename_i p' n' T' len' cap' f hnn hlk
      have hnn := Nat.eq_of_beq_eq_true hnn
      by_cases hm : m = 0
      · obtain ⟨hle, h0⟩ := h.1 hm
        subst hm
        simp only [SV.val] at hx
        exact St.val (Y.append0 (bytes := 0) (u := hu) (sz := ht.sz) hx hy hle) hd (hk _ _ h0 L hL)
      · have hm : 0 < m := by omega
        obtain ⟨⟨rfl, rfl, rfl, rfl, rfl, rfl⟩, hknown, hfit, ⟨hb1, hb2⟩, h9⟩ := h.2 hm
        subst hnn
        intro a w ha hw
        obtain ⟨hp2, hcell, hnl⟩ := hnews w hw hm hknown
        obtain ⟨M, A, hM, hperm, hre⟩ := hL.split hlk
        cases hM with
        | own hM =>
        have hyv : ev (venv E) yo = some (.slice (some ⟨pb p2, po p2 + stN st2 * n, none⟩) m c2) := by rw [hy]; simp only [advp_some hp2]
        simp only [SV.val, advp] at hx
        have hgl : ∀ j, j < m → (SV.vals (gg (addn st2 j)).cs).length = n := fun j hj => by rw [vals_length]; exact hnl j hj
        have hones : ∀ u ∈ flatN m (fun j => SV.vals (gg (addn st2 j)).cs), u.oneCell' = true := flatN_all fun j hj u hu => ones_mem (SV.fit_ones (addK_iff.1 (hfit j hj))) u hu
        obtain ⟨xs, hrow, hxl, hxs⟩ : ∃ xs, RowOk T' ti.size (.slice p len cap) len xs M ∧ xs.length = len * n ∧ ∀ j, j < len → (xs.drop (j * n)).take n = SV.vals (f j).cs ∧ (f j).cs.length = n := by
          rcases hM with ⟨rfl, rfl, rfl, rfl⟩ | ⟨b, cur, rfl, rfl, hc, hlc, hmx, hcs⟩
          · exact ⟨[], .nil, by simp, fun j hj => by omega⟩
          · rw [hn2] at hc
            refine ⟨_, .row hc hlc hmx, ?_, fun j hj => ?_⟩
            · rw [List.length_take, hc, hn2]; exact Nat.min_eq_left (Nat.mul_le_mul_right _ hlc)
            · refine ⟨?_, (hcs j hj).2⟩
              rw [← (hcs j hj).1]
              refine piece_ext fun i hi => ?_
              have h2 : (j + 1) * n ≤ len * n := Nat.mul_le_mul_right _ hj
              rw [Nat.add_one_mul] at h2
              rw [← hn2, List.getElem?_take, if_pos (by omega)]
        refine St.append (T := 0) (u := hu) (sz := ht.sz) (bt := ht.bt) (zv := ht.zv z hz) hx hyv hrow hperm hzc hzp (by rw [← hn2]; exact flatN_length hgl) hcell hones hb1 hb2 hd ?_ a w ha hw
        intro v' Lr' hrow'
        obtain ⟨b, cap1, cur, rfl, rfl, hc, hlc, hmx, hxx⟩ := hrow'.inv (by omega)
        rw [← hn2] at hc hxx
        obtain ⟨L', hL', hp'⟩ := hre (.row true (some ⟨b, 0, none⟩) n T' (len + m) cap1 (appF len f gg st2)) [(b, .cells cur.toArray T' (0, 0))] (.own (.inr ⟨b, cur, rfl, rfl, hc, hlc, hmx,
          row_behind (e := 0) hc hlc hxl hxs (fun j hj => ⟨flatN_piece hgl j hj, hnl j hj⟩) hxx⟩))
        have h9 := h9 b cap1 hlc
        rw [nrm_iff] at h9
        exact St.put_turn hL' hp' (hk _ _ h9)
    · exact h.elim
  · by_cases hm : m = 0
    · have h0 := h.1 hm
      subst hm
      simp only [SV.val] at hx
      exact St.val (Y.append0 (bytes := 0) (u := hu) (sz := ht.sz) hx hy (Nat.le_refl _)) hd (hk _ _ h0 L hL)
    · have hm : 0 < m := by omega
      obtain ⟨hknown, hfit, ⟨hb1, hb2⟩, h9⟩ := h.2 hm
      intro a w ha hw
      obtain ⟨hp2, hcell, hnl⟩ := hnews w hw hm hknown
      have hyv : ev (venv E) yo = some (.slice (some ⟨pb p2, po p2 + stN st2 * n2, none⟩) m c2) := by rw [hy]; simp only [advp_some hp2]
      simp only [SV.val] at hx
      have hgl : ∀ j, j < m → (SV.vals (gg (addn st2 j)).cs).length = n2 := fun j hj => by rw [vals_length]; exact hnl j hj
      have hones : ∀ u ∈ flatN m (fun j => SV.vals (gg (addn st2 j)).cs), u.oneCell' = true := flatN_all fun j hj u hu => ones_mem (SV.fit_ones (addK_iff.1 (hfit j hj))) u hu
      refine St.append (T := 0) (A := L) (u := hu) (sz := ht.sz) (bt := ht.bt) (zv := ht.zv z hz) hx hyv .nil (by rw [List.append_nil]) hzc hzp (by rw [← hn2]; exact flatN_length hgl) hcell hones (by rw [Nat.zero_add]; exact hb1) (by rw [Nat.zero_add]; exact hb2) hd ?_ a w ha hw
      intro v' Lr' hrow'
      rw [Nat.zero_add, List.nil_append] at hrow'
      obtain ⟨b, cap1, cur, rfl, rfl, hc, hlc, hmx, hxx⟩ := hrow'.inv hm
      rw [← hn2] at hc hxx
      have hL' : HR w0 X ((d, .row true (some ⟨b, 0, none⟩) n2 e m cap1 (appF 0 (fun _ => z) gg st2)) :: H) ([(b, .cells cur.toArray e (0, 0))] ++ L) := .cons (.own (.inr ⟨b, cur, rfl, rfl, hc, hlc, hmx, fun j hj =>
        row_behind (e := 0) (len := 0) (xs := []) (f := fun _ => z) hc (by omega) (by simp) (fun j hj => by omega) (fun j hj => ⟨flatN_piece hgl j hj, hnl j hj⟩) (by rw [Nat.zero_add]; exact hxx) j (by omega)⟩)) hL
      exact St.put_turn (A := L) hL' List.perm_append_comm (hk _ _ (h9 b cap1 hlc))
  · exact h.elim

theorem vappend_ok {t d : Nat} {s u : SV} {x y : Operand} {k : SV → Heap → Prop} (hT : T.All P) (h : vappend T w0 X D t d s u H k) (hL : HR w0 X H L) (hd : Nat.blt d N = true) (hx : ev (venv E) x = some s.val) (hy : ev (venv E) y = some u.val)
    (hk : ∀ v H', k v H' → VSt N w0 X ((d, v) :: E) H' D K) :
    St N (venv E) D ⟨w0, X, L, D⟩ (Op1 P r ⟨some d, .call { callee := .builtin .append, args := #[x, y], argTypes := #[t, t] }, ty, pos, aft, g⟩ K) := by
  unfold vappend at h
  split at h
  · exact h.elim
  · rename_i yy hs
    split at h
    · exact h.elim
    · rename_i z hz
      split at h
      · rename_i hzf hzl hzp
        have hzl := Nat.eq_of_beq_eq_true hzl
        have hzp : 0 < yy.2.size := by simpa using hzp
        split at h
        · rename_i i2 p2 n2 st2 m c2
          split at h
          · rename_i hn2
            have hn2 := Nat.eq_of_beq_eq_true hn2
            split at h
            · rename_i own2 p2' n2' T2 len2 cap2 gg hlk2
              refine vapp_ok (p2 := p2) hT hs hz hzf hzl hzp hn2 (fun hm hkn w hw => ?_) h hL hd hx hy hk
              obtain ⟨rfl, rfl, hlen⟩ := hkn
              rw [addn_eq] at hlen
              exact fun j hj => hL.row hlk2 hw j (by omega)
            · obtain ⟨gg, h⟩ := h
              refine vapp_ok (p2 := p2) hT hs hz hzf hzl hzp hn2 (fun hm hkn w hw => ?_) h hL hd hx hy hk
              have := hkn w L hL hw
              rw [addn_eq] at this
              exact this
          · exact h.elim
        · obtain ⟨hu, ht⟩ := sliceT_ok hT hs
          split at h
          · simp only [SV.val] at hx hy
            exact St.val (Y.append0 (bytes := 0) (u := hu) (sz := ht.sz) hx hy h.1) hd (hk _ _ h.2 L hL)
          · simp only [SV.val] at hx hy
            exact St.val (Y.append0 (bytes := 0) (u := hu) (sz := ht.sz) hx hy (Nat.le_refl _)) hd (hk _ _ h L hL)
          · exact h.elim
        · exact h.elim
      · exact h.elim
end
end Go.Proofs.Ytikaonfnaobciaa
