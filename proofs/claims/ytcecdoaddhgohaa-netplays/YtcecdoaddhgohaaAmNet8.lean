/- NetOrder: the law over the machine. -/
import Derived.Test.YtcecdoaddhgohaaAmNet7
set_option linter.all false
namespace Am.Net
open Am Go Am.Ir
set_option maxRecDepth 100000

/-- An argument of slices of bytes. -/
def IsL (x : AVal) (us : List (List UInt8)) : Prop :=
  (x = .nils ∧ us = []) ∨ ∃ cells, x = .fz false us.length cells ∧ cells.length = us.length ∧ ∀ (j : Nat) v u, cells[j]? = some v → us[j]? = some u → IsB v u

theorem IsL.len {x : AVal} {us : List (List UInt8)} (h : IsL x us) : lenA .sl x = some (.int .i64 us.length) := by
  rcases h with ⟨rfl, rfl⟩ | ⟨cells, rfl, _⟩ <;> rfl

theorem IsL.ix {x : AVal} {us : List (List UInt8)} (h : IsL x us) {j : Nat} (hj : j < us.length) : ∃ v, iaddrSA 1 x (.int .i64 (j : Int)) = some (.fq [v]) ∧ IsB v us[j] := by
  rcases h with ⟨rfl, rfl⟩ | ⟨cells, rfl, hl, hc⟩
  · simp at hj
  · have hj' : j < cells.length := by omega
    have h2 : (j : Int) < us.length := by omega
    have h1 : (cells.drop j).take 1 = [cells[j]] := by
      rw [List.drop_eq_getElem_cons hj', List.take_succ_cons, List.take_zero]
    exact ⟨cells[j], by simp [iaddrSA, hl, h2, h1], hc j _ _ (List.getElem?_eq_getElem hj') (List.getElem?_eq_getElem hj)⟩

theorem fps_up {p : Nat} {f : Bool → List Nat} {b : Bool} {f' : List Nat} {n : Nat} (h : ∀ q ∈ f', q ∈ f b ∨ n ≤ q) : ∀ q ∈ fps p (up f b f'), q ∈ fps p f ∨ n ≤ q := by
  intro q hq
  rcases mem_fps.1 hq with rfl | ⟨b', hb⟩
  · exact .inl (mem_fps.2 (.inl rfl))
  · by_cases e : b' = b
    · subst e; rw [up_self] at hb
      rcases h q hb with h1 | h1
      · exact .inl (mem_fps.2 (.inr ⟨_, h1⟩))
      · exact .inr h1
    · have : up f b f' b' = f b' := by simp [up, e]
      rw [this] at hb
      exact .inl (mem_fps.2 (.inr ⟨_, hb⟩))

theorem send_any {S : St} {p c L f} (h : NetI S p c L f) (b : Bool) {x : AVal} {u : List UInt8} (hx : BytesA S x u) (hf : (L b).length < 100) :
    ∃ S' c' L' f' K, ∃ e : Int, xSend [.ptr p 0 0, .bool b, x] S = some (.int .i64 e, S') ∧ NetI S' p c' L' f' ∧ Keeps S S' K ∧ (∀ q ∈ K, q ∈ fps p f) ∧ (∀ q ∈ fps p f', q ∈ fps p f ∨ S.length ≤ q) ∧
      ((e = 0 ∧ L' = up L b (L b ++ [u])) ∨ (e ≠ 0 ∧ L' = L)) := by
  by_cases hu : u = [] ∨ 600 < u.length
  · exact ⟨S, c, L, f, [], 4, send_bad h b hx hu, h, Keeps.refl _ _, by simp, fun q hq => .inl hq, .inr ⟨by omega, rfl⟩⟩
  · simp only [not_or] at hu
    obtain ⟨S', c', f', K, h1, h2, h3, h4, h5⟩ := send_ok h b hx hu.1 (by omega) hf
    refine ⟨S', _, _, _, K, 0, h1, h2, h3, fun q hq => ?_, fps_up h5, .inl ⟨rfl, rfl⟩⟩
    rcases h4 q hq with rfl | h6
    · exact mem_fps.2 (.inl rfl)
    · exact mem_fps.2 (.inr ⟨_, h6⟩)

structure OrdI (xl xo : AVal) (us os : List (List UInt8)) (rw' : Nat) (W : List (List UInt8)) (j : Nat) (f : Fr) (S : St) : Prop where
  g0 : f.get 0 = xl
  g1 : f.get 1 = xo
  g5 : f.get 5 = .ptr 0 0 0
  g7 : f.get 7 = .int .i64 (j : Int)
  w : ∃ v, f.get 6 = .sl rw' v 0 W.length 1 ∧ S[rw']? = some (.live v (W.map .str))
  net : ∃ c L fn, NetI S 0 c L fn ∧ rw' ∉ fps 0 fn ∧ L true = W ∧ (L true).length ≤ j ∧ (L false).length ≤ j

theorem append_str {S : St} {r v : Nat} {W : List (List UInt8)} (hS : S[r]? = some (.live v (W.map .str))) (u : List UInt8) (hW : W.length < 1000) :
    appendA 1 16 (.sl r v 0 W.length 1) (.sl S.length 0 0 1 1) (S ++ [.live 0 [.str u]]) = some (.sl r (v + 1) 0 (W ++ [u]).length 1, List.set (S ++ [ABlock.live 0 [AVal.str u]]) r (ABlock.live (v + 1) ((W ++ [u]).map .str))) := by
  have hS' : (S ++ [.live 0 [.str u]])[r]? = some (.live v (W.map .str)) := by rw [get_old (live_lt hS)]; exact hS
  simp [appendA, cellsOf, hS']
  rw [List.take_of_length_le (by simp)]
  simp; omega

/-- A round of the first loop. -/
theorem order_round {k : Nat} {xl xo : AVal} {us os : List (List UInt8)} (hl : IsL xl us) (ho : IsL xo os) (h6 : us.length ≤ 60) {rw' : Nat} {W : List (List UInt8)} {j : Nat} (hj : j < us.length)
    {f : Fr} {S : St} (h : OrdI xl xo us os rw' W j f S) : Post (evC fO k NetOrder_l0 f S) fun e f' S' => e = .normal ∧ ∃ W', OrdI xl xo us os rw' W' (j + 1) f' S' := by
  obtain ⟨g0, g1, g5, g7, ⟨v, g6, hw⟩, c, L, fn, N, hrw, hLW, hLt, hLf⟩ := h
  obtain ⟨m, i1, i2⟩ := hl.ix hj
  have hlen := hl.len
  have holen := ho.len
  have hj' : (j : Int) < us.length := by omega
  have hwr : IntKind.i64.wrap ((j : Int) + 1) = (j : Int) + 1 := by have := wrap_nat (n := j + 1) (by omega); simpa using this
  obtain ⟨S1, c1, L1, f1, K1, e, s1, N1, k1, k1', k1'', hr⟩ := send_any N true (i2.arg S) (by omega)
  have hw1 : S1[rw']? = some (.live v (W.map .str)) := k1.get hw (fun hm => hrw (k1' _ hm))
  have hrw1 : rw' ∉ fps 0 f1 := fun hm => by
    rcases k1'' _ hm with h1 | h1
    · exact hrw h1
    · have := live_lt hw; omega
  have hL1f : L1 false = L false := by
    rcases hr with ⟨_, rfl⟩ | ⟨_, rfl⟩
    · simp [up]
    · rfl
  -- the second half: what is sent on the other line
  have second : ∀ (S2 : St) (W' : List (List UInt8)) (v' : Nat) (c2 : Bool → AVal) (L2 : Bool → List (List UInt8)) (f2 : Bool → List Nat), NetI S2 0 c2 L2 f2 → S2[rw']? = some (.live v' (W'.map .str)) → rw' ∉ fps 0 f2 → L2 true = W' → (L2 true).length ≤ j + 1 → (L2 false).length ≤ j →
      (j < os.length → ∃ vo e2 S3 c3 L3 f3, iaddrSA 1 xo (.int .i64 (j : Int)) = some (.fq [vo]) ∧ xSend [.ptr 0 0 0, .bool false, vo] S2 = some (.int .i64 e2, S3) ∧
        (NetI S3 0 c3 L3 f3 ∧ S3[rw']? = some (.live v' (W'.map .str)) ∧ rw' ∉ fps 0 f3 ∧ L3 true = W' ∧ (L3 true).length ≤ j + 1 ∧ (L3 false).length ≤ j + 1)) := by
    intro S2 W' v' c2 L2 f2 N2 hw2 hrw2 hL2 ht2 hf2 hjo
    obtain ⟨vo, i3, i4⟩ := ho.ix hjo
    obtain ⟨S3, c3, L3, f3, K3, e3, s3, N3, k3, k3', k3'', hr3⟩ := send_any N2 false (i4.arg S2) (by omega)
    refine ⟨vo, e3, S3, c3, L3, f3, i3, s3, N3, k3.get hw2 (fun hm => hrw2 (k3' _ hm)), fun hm => ?_, ?_, ?_, ?_⟩
    · rcases k3'' _ hm with h1 | h1
      · exact hrw2 h1
      · have := live_lt hw2; omega
    · rcases hr3 with ⟨_, rfl⟩ | ⟨_, rfl⟩
      · simpa [up] using hL2
      · exact hL2
    · rcases hr3 with ⟨_, rfl⟩ | ⟨_, rfl⟩
      · simpa [up] using ht2
      · exact ht2
    · rcases hr3 with ⟨_, rfl⟩ | ⟨_, rfl⟩
      · simpa [up] using hf2
      · omega
  have hbs := i2.bytes S1
  have hWl : W.length ≤ j := by rw [← hLW]; exact hLt
  rcases hr with ⟨rfl, rfl⟩ | ⟨he, rfl⟩
  · have happ := append_str hw1 us[j] (W := W) (by omega)
    generalize hS2 : List.set (S1 ++ [ABlock.live 0 [AVal.str us[j]]]) rw' (ABlock.live (v + 1) ((W ++ [us[j]]).map .str)) = S2 at happ
    have hk2 : Keeps S1 S2 [rw'] := by
      rw [← hS2]
      refine ⟨by simp, fun q hq hn => ?_⟩
      rw [List.getElem?_set, if_neg (by simpa [eq_comm] using hn)]; exact get_old hq
    have N2 := N1.keep hk2 (fun q hq => by simp; rintro rfl; exact hrw1 hq)
    have hw2 : S2[rw']? = some (.live (v + 1) ((W ++ [us[j]]).map .str)) := by
      rw [← hS2, List.getElem?_set, if_pos rfl, if_pos (by have := live_lt hw1; simp; omega)]
    have hL2 : up L true (L true ++ [us[j]]) true = W ++ [us[j]] := by simp [up, hLW]
    have sec := second S2 (W ++ [us[j]]) (v + 1) _ _ _ N2 hw2 hrw1 hL2 (by simp [up]; omega) (by simpa [up] using hLf)
    by_cases hjo : j < os.length
    · obtain ⟨vo, e2, S3, c3, L3, f3, i3, s3, N3, hw3, hrw3, a1, a2, a3⟩ := sec hjo
      have hjo' : (j : Int) < os.length := by omega
      simp [Post, NetOrder_l0, fO, orc, evC, evOps, evOper, evAny, evOp, evCall, putR, putA, Fr.ev, Fr.get_set, stable, same, g0, g1, g5, g6, g7, hlen, holen, binA, intBin, hj', i1, load_fq, s1, hbs, fillA, cells?, splice, happ, hjo', i3, s3, hwr]
      refine ⟨W ++ [us[j]], ⟨by simp [Fr.get_set, g0], by simp [Fr.get_set, g1], by simp [Fr.get_set, g5], by simp [Fr.get_set], ⟨v + 1, by simp [Fr.get_set], hw3⟩, c3, L3, f3, N3, hrw3, a1, a2, a3⟩⟩
    · have hjo' : ¬ (j : Int) < os.length := by omega
      simp [Post, NetOrder_l0, fO, orc, evC, evOps, evOper, evAny, evOp, evCall, putR, putA, Fr.ev, Fr.get_set, stable, same, g0, g1, g5, g6, g7, hlen, holen, binA, intBin, hj', i1, load_fq, s1, hbs, fillA, cells?, splice, happ, hjo', hwr]
      refine ⟨W ++ [us[j]], ⟨by simp [Fr.get_set, g0], by simp [Fr.get_set, g1], by simp [Fr.get_set, g5], by simp [Fr.get_set], ⟨v + 1, by simp [Fr.get_set], hw2⟩, _, _, _, N2, hrw1, hL2, by simp [up]; omega, by simp [up]; omega⟩⟩
  · have sec := second S1 W v _ _ _ N1 hw1 hrw1 hLW (by omega) hLf
    by_cases hjo : j < os.length
    · obtain ⟨vo, e2, S3, c3, L3, f3, i3, s3, N3, hw3, hrw3, a1, a2, a3⟩ := sec hjo
      have hjo' : (j : Int) < os.length := by omega
      simp [Post, NetOrder_l0, fO, orc, evC, evOps, evOper, evAny, evOp, evCall, putR, putA, Fr.ev, Fr.get_set, stable, same, g0, g1, g5, g6, g7, hlen, holen, binA, intBin, hj', i1, load_fq, s1, he, hjo', i3, s3, hwr]
      refine ⟨W, ⟨by simp [Fr.get_set, g0], by simp [Fr.get_set, g1], by simp [Fr.get_set, g5], by simp [Fr.get_set], ⟨v, by simp [Fr.get_set, g6], hw3⟩, c3, L3, f3, N3, hrw3, a1, a2, a3⟩⟩
    · have hjo' : ¬ (j : Int) < os.length := by omega
      simp [Post, NetOrder_l0, fO, orc, evC, evOps, evOper, evAny, evOp, evCall, putR, putA, Fr.ev, Fr.get_set, stable, same, g0, g1, g5, g6, g7, hlen, holen, binA, intBin, hj', i1, load_fq, s1, he, hjo', hwr]
      refine ⟨W, ⟨by simp [Fr.get_set, g0], by simp [Fr.get_set, g1], by simp [Fr.get_set, g5], by simp [Fr.get_set], ⟨v, by simp [Fr.get_set, g6], hw1⟩, _, _, _, N1, hrw1, hLW, by omega, by omega⟩⟩

theorem order_end {k : Nat} {xl xo : AVal} {us os : List (List UInt8)} (hl : IsL xl us) {rw' : Nat} {W : List (List UInt8)}
    {f : Fr} {S : St} (h : OrdI xl xo us os rw' W us.length f S) : Post (evC fO k NetOrder_l0 f S) fun e f' S' => e = .exit 0 ∧ OrdI xl xo us os rw' W us.length f' S' := by
  obtain ⟨g0, g1, g5, g7, ⟨v, g6, hw⟩, hn⟩ := h
  have hlen := hl.len
  simp [Post, NetOrder_l0, fO, orc, evC, evOps, evOper, evAny, evOp, evCall, putR, putA, Fr.ev, Fr.get_set, stable, same, g0, g7, hlen, binA, intBin]
  exact ⟨by simp [Fr.get_set, g0], by simp [Fr.get_set, g1], by simp [Fr.get_set, g5], by simp [Fr.get_set, g7], ⟨v, by simp [Fr.get_set, g6], hw⟩, hn⟩

/-- The second loop: all that was sent comes. -/
structure OrdJ (rw' v : Nat) (W : List (List UInt8)) (j : Nat) (f : Fr) (S : St) : Prop where
  g5 : f.get 5 = .ptr 0 0 0
  g6 : f.get 6 = .sl rw' v 0 W.length 1
  g8 : f.get 8 = .int .i64 (j : Int)
  w : S[rw']? = some (.live v (W.map .str))
  net : ∃ c L fn, NetI S 0 c L fn ∧ rw' ∉ fps 0 fn ∧ L true = W.drop j

theorem order_take {k : Nat} {rw' v : Nat} {W : List (List UInt8)} (hW : W.length ≤ 60) {j : Nat} (hj : j < W.length) {f : Fr} {S : St} (h : OrdJ rw' v W j f S) :
    Post (evC fO k NetOrder_l2 f S) fun e f' S' => e = .normal ∧ OrdJ rw' v W (j + 1) f' S' := by
  obtain ⟨g5, g6, g8, hw, c, L, fn, N, hrw, hL⟩ := h
  have hj' : (j : Int) < W.length := by omega
  have hwr : IntKind.i64.wrap ((j : Int) + 1) = (j : Int) + 1 := by have := wrap_nat (n := j + 1) (by omega); simpa using this
  have hd : L true = W[j] :: W.drop (j + 1) := by rw [hL]; exact List.drop_eq_getElem_cons hj
  obtain ⟨c', f', m, rm, s1, N1, i1, p1, n1, M1⟩ := take_first N true hd (by simp; omega) 0 (.inl rfl)
  have hk := keeps_setL S 0 c true c'
  have hrm : rm ≠ 0 := fun e => N.notp true (e ▸ p1)
  have M1' := (M1.keep hk (by simpa using hrm)).bytes
  have hrw0 : rw' ≠ 0 := fun e => hrw (by rw [e]; simp [fps])
  have hw1 := hk.get hw (by simpa using hrw0)
  have hld : iaddrSA 1 (.sl rw' v 0 W.length 1) (.int .i64 (j : Int)) = some (.ptr rw' v j) := by simp [iaddrSA, hj']
  have hld2 : loadA none (.ptr rw' v j) (setL S 0 c true c') = some (.str W[j]) := by simp [loadA, hw1, partA, hj]
  simp at s1
  simp [Post, NetOrder_l2, fO, orc, evC, evOps, evOper, evAny, evOp, evCall, putR, putA, Fr.ev, Fr.get_set, stable, same, g5, g6, g8, lenA, binA, intBin, hj', s1, unA, M1', hld, hld2, strBin, hwr]
  refine ⟨by simp [Fr.get_set, g5], by simp [Fr.get_set, g6], by simp [Fr.get_set], hw1, _, _, _, N1, ?_, by simp [up]⟩
  intro hm
  rcases fps_up (p := 0) (f := fn) (b := true) (f' := f') (n := S.length + rw' + 1) (fun q hq => .inl (i1 q hq)) _ hm with h1 | h1
  · exact hrw h1
  · omega

theorem order_last {k : Nat} {rw' v : Nat} {W : List (List UInt8)} {f : Fr} {S : St} (h : OrdJ rw' v W W.length f S) :
    Post (evC fO k NetOrder_l2 f S) fun e f' S' => e = .exit 2 ∧ OrdJ rw' v W W.length f' S' := by
  obtain ⟨g5, g6, g8, hw, hn⟩ := h
  simp [Post, NetOrder_l2, fO, orc, evC, evOps, evOper, evAny, evOp, evCall, putR, putA, Fr.ev, Fr.get_set, stable, same, g6, g8, lenA, binA, intBin]
  exact ⟨by simp [Fr.get_set, g5], by simp [Fr.get_set, g6], by simp [Fr.get_set, g8], hw, hn⟩

theorem order_t4 {k : Nat} {rw' v : Nat} {W : List (List UInt8)} (hW : W.length ≤ 60) (hk : 100 < k) {f : Fr} {S : St} (g5 : f.get 5 = .ptr 0 0 0) (g6 : f.get 6 = .sl rw' v 0 W.length 1)
    (hw : S[rw']? = some (.live v (W.map .str))) (hn : ∃ c L fn, NetI S 0 c L fn ∧ rw' ∉ fps 0 fn ∧ L true = W) :
    Post (evC fO k NetOrder_t4 f S) fun e f S1 => (e = .normal ∨ e = .ret) ∧ resultsA f S1 [Sum.inl 4] = some (.bool true) := by
  obtain ⟨f', S', l1, h⟩ := loop_post (k := k) (id := 2) (b := NetOrder_l2) (O := fO) (I := OrdJ rw' v W) (Q := OrdJ rw' v W W.length) W.length (by omega) (fun j hj f S h => order_take hW hj h) (fun f S h => order_last h)
    (f := f.set 8 (.int .i64 0)) (S := S) ⟨by simp [Fr.get_set, g5], by simp [Fr.get_set, g6], by simp [Fr.get_set], hw, by simpa using hn⟩
  obtain ⟨g5', g6', g8', hw', c, L, fn, N, _, hL⟩ := h
  have hL' : L true = [] := by rw [hL]; simp
  have t1 := take_none N true (n := 0) (.inl hL')
  have w1 := waits_ok N true
  rw [hL'] at w1
  simp at w1
  have l1' : evC fO k NetOrder_s3 (f.set 8 (.int .i64 0)) S = some (.normal, f', S') := l1
  simp only [fO, orc] at l1'
  simp [Post, NetOrder_t4, fO, orc, evC, evOps, evOper, evAny, evOp, evCall, putR, putA, Fr.ev, Fr.get_set, stable, same, resultsA, resA, l1', g5', t1, mAlive_eq, unA, w1, binA, intBin]

theorem order_t5 {xl xo : AVal} {us os : List (List UInt8)} (hl : IsL xl us) (ho : IsL xo os) (h6 : us.length ≤ 60) {k : Nat} (hk : 100 < k) {rw' : Nat} {f : Fr} {S : St}
    (g0 : f.get 0 = xl) (g1 : f.get 1 = xo) (g5 : f.get 5 = .ptr 0 0 0) (g6 : f.get 6 = .sl rw' 0 0 0 1) (hw : S[rw']? = some (.live 0 [])) (hn : NetI S 0 (fun _ => .nils) (fun _ => []) (fun _ => [])) (hrw : rw' ≠ 0) :
    Post (evC fO k NetOrder_t5 f S) fun e f S1 => (e = .normal ∨ e = .ret) ∧ resultsA f S1 [Sum.inl 4] = some (.bool true) := by
  obtain ⟨f', S', l1, W, h⟩ := loop_post (k := k) (id := 0) (b := NetOrder_l0) (O := fO) (I := fun j f S => ∃ W, OrdI xl xo us os rw' W j f S) (Q := fun f S => ∃ W, OrdI xl xo us os rw' W us.length f S) us.length (by omega)
    (fun j hj f S ⟨W, h⟩ => order_round hl ho h6 hj h) (fun f S ⟨W, h⟩ => (order_end hl h).mono fun e f S ⟨a, b⟩ => ⟨a, W, b⟩)
    (f := f.set 7 (.int .i64 0)) (S := S) ⟨[], by simp [Fr.get_set, g0], by simp [Fr.get_set, g1], by simp [Fr.get_set, g5], by simp [Fr.get_set], ⟨0, by simp [Fr.get_set, g6], by simpa using hw⟩, _, _, _, hn, by simpa [fps] using hrw, rfl, by simp, by simp⟩
  obtain ⟨g0', g1', g5', g7', ⟨v, g6', hw'⟩, c, L, fn, N, hrw', hLW, hLt, hLf⟩ := h
  have l1' : evC fO k NetOrder_s1 (f.set 7 (.int .i64 0)) S = some (.normal, f', S') := l1
  have := order_t4 (k := k) (W := W) (by rw [← hLW]; omega) hk g5' g6' hw' ⟨c, L, fn, N, hrw', hLW⟩
  simp only [NetOrder_t5, evC, evOps, evOper, evAny, evOp, putR, putA, Fr.ev, stable, if_true]
  rw [l1']
  exact this

theorem netOrder {xl xo : AVal} {us os : List (List UInt8)} (hl : IsL xl us) (ho : IsL xo os) : ∃ S', evF fO 1000 NetOrder [xl, xo] [] = some (.bool true, S') := by
  have hlen := hl.len
  have holen := ho.len
  have N1 := new_net []
  simp only [List.nil_append, List.length_nil] at N1
  have fin : (Post (evC fO 1000 NetOrder.body (Fr.of [xl, xo]) []) fun e f S1 => (e = .normal ∨ e = .ret) ∧ resultsA f S1 [Sum.inl 4] = some (.bool true)) → ∃ S', evF fO 1000 NetOrder [xl, xo] [] = some (.bool true, S') := by
    intro h
    obtain ⟨e, f, S1, h1, h2, h3⟩ := h.ex
    exact ⟨S1, evF_post rfl (by rw [h1]; exact ⟨h2, h3, rfl⟩)⟩
  apply fin
  by_cases h1 : (60 : Int) < us.length
  · simp [Post, NetOrder, fO, orc, evC, evOps, evOper, evAny, evOp, evCall, putR, putA, Fr.ev, Fr.of, Fr.get, Fr.set, stable, resultsA, resA, same, eq2, binA, intBin, new0, mAlive_eq, hlen, holen, h1]
  · by_cases h2 : (60 : Int) < os.length
    · simp [Post, NetOrder, fO, orc, evC, evOps, evOper, evAny, evOp, evCall, putR, putA, Fr.ev, Fr.of, Fr.get, Fr.set, stable, resultsA, resA, same, eq2, binA, intBin, new0, mAlive_eq, hlen, holen, h1, h2]
    · simp [NetOrder, fO, orc, evC, evOps, evOper, evAny, evOp, evCall, putR, putA, Fr.ev, Fr.of, Fr.get, Fr.set, stable, same, eq2, binA, intBin, new0, mAlive_eq, hlen, holen, h1, h2, fillA]
      have hk1 : NetI ([.live 0 [.nils, .nils], .live 0 []] : St) 0 (fun _ => .nils) (fun _ => []) (fun _ => []) := N1.keep (Keeps.append _ [.live 0 []]) (by simp)
      exact order_t5 (rw' := 1) hl ho (by omega) (by omega) (by simp [Fr.get]) (by simp [Fr.get]) (by simp [Fr.get]) (by simp [Fr.get]) (by simp) hk1 (by simp)
end Am.Net
