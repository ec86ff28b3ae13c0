/- The plain law of SmInv. -/
import Derived.Test.YtahfhogifkkoeaaFnSmallBack
import Derived.Test.YtahfhogifkkoeaaLibNum
import Derived.Test.YtahfhogifkkoeaaLibIl
import Derived.Test.YtahfhogifkkoeaaLibGRest
import Derived.Test.YtahfhogifkkoeaaLibGRol
import Derived.Test.YtahfhogifkkoeaaLibSmNum
import Derived.Test.YtahfhogifkkoeaaLibSmRol
import Derived.Test.YtahfhogifkkoeaaLibSmG
import Derived.Test.YtahfhogifkkoeaaLibGLoad
import Derived.Test.YtahfhogifkkoeaaLibFill
import Derived.Test.YtahfhogifkkoeaaLibGIl
import Derived.Test.YtahfhogifkkoeaaLibGStore
import Derived.Test.YtahfhogifkkoeaaLibSmWords
import Derived.Test.YtahfhogifkkoeaaLibSmX
import Derived.Test.YtahfhogifkkoeaaLibSmM
import Derived.Test.YtahfhogifkkoeaaLibSmR5
set_option linter.unusedVariables false
set_option linter.unusedSimpArgs false
set_option linter.unnecessarySimpa false
namespace Go.Scr.S
theorem pe {p : Nat × Nat} {a b : Nat} (h1 : p.1 = a) (h2 : p.2 = b) : (a, b) = p := by rw [← h1, ← h2]
theorem bkS_fwS (K : List Nat) {s : Nat} (hs : s < 4294967296) {p : Nat × Nat} (hp : Wd p) : bkS K (wa s gold) (fwS K s p) = p := by
  have h1 : ws (wa s gold) gold = s := ws_wa hs (by decide)
  have l1 : st p.2 (kA K s) < 4294967296 := st_lt (wa_lt _ _)
  have l2 : st (wa p.1 (st p.2 (kA K s))) (kB K (wa s gold)) < 4294967296 := st_lt (wa_lt _ _)
  unfold bkS fwS
  simp only [h1, ws_wa hp.2 l2, ws_wa hp.1 l1]
theorem fwS_bkS (K : List Nat) {s : Nat} (hs : s < 4294967296) {p : Nat × Nat} (hp : Wd p) : fwS K s (bkS K (wa s gold) p) = p := by
  have h1 : ws (wa s gold) gold = s := ws_wa hs (by decide)
  have l1 : st p.1 (kB K (wa s gold)) < 4294967296 := st_lt (wa_lt _ _)
  have l2 : st (ws p.2 (st p.1 (kB K (wa s gold)))) (kA K s) < 4294967296 := st_lt (wa_lt _ _)
  unfold bkS fwS
  simp only [h1, wa_ws hp.2 l1, wa_ws hp.1 l2]
def sg (n s : Nat) : Nat := (s + n * gold) % 4294967296
theorem sg_lt (n s : Nat) : sg n s < 4294967296 := Nat.mod_lt _ (by decide)
theorem sg_succ (n s : Nat) : sg (n + 1) s = wa (sg n s) gold := by unfold sg wa gold; omega
theorem sg_wa (n s : Nat) : sg n (wa s gold) = sg (n + 1) s := by unfold sg wa gold; omega
theorem fw_snoc (K : List Nat) (n : Nat) : ∀ (s : Nat) (p : Nat × Nat), s < 4294967296 → fw K (n + 1) s p = fwS K (sg n s) (fw K n s p) := by
  induction n with
  | zero =>
    intro s p hs
    have : sg 0 s = s := by unfold sg; omega
    rw [this]; rfl
  | succ n ih =>
    intro s p hs
    show fw K (n + 1) (wa s gold) (fwS K s p) = _
    rw [ih _ _ (wa_lt _ _), sg_wa]; rfl
theorem bk_fw (K : List Nat) (n : Nat) : ∀ (s : Nat) (p : Nat × Nat), s < 4294967296 → Wd p → bk K n (sg n s) (fw K n s p) = p := by
  induction n with
  | zero => intro s p _ _; rfl
  | succ n ih =>
    intro s p hs hp
    rw [fw_snoc K n s p hs, sg_succ]
    show bk K n (ws (wa (sg n s) gold) gold) (bkS K (wa (sg n s) gold) (fwS K (sg n s) (fw K n s p))) = p
    rw [bkS_fwS K (sg_lt n s) (fw_wd K n s p hp), ws_wa (sg_lt n s) (by decide)]
    exact ih s p hs hp
theorem fw_bk (K : List Nat) (n : Nat) : ∀ (s : Nat) (p : Nat × Nat), s < 4294967296 → Wd p → fw K n s (bk K n (sg n s) p) = p := by
  induction n with
  | zero => intro s p _ _; rfl
  | succ n ih =>
    intro s p hs hp
    rw [fw_snoc K n s _ hs, sg_succ]
    show fwS K (sg n s) (fw K n s (bk K n (ws (wa (sg n s) gold) gold) (bkS K (wa (sg n s) gold) p))) = p
    rw [ws_wa (sg_lt n s) (by decide), ih s _ hs (bkS_wd K _ p), fwS_bkS K (sg_lt n s) hp]
theorem sg32 : sg 32 0 = 3337565984 := by unfold sg gold; omega
theorem xt_inv (K : List Nat) (b : Bool) {p : Nat × Nat} (hp : Wd p) : xt K (!b) (xt K b p) = p := by
  cases b
  · have := bk_fw K 32 0 p (by decide) hp
    rw [sg32] at this; exact this
  · have := fw_bk K 32 0 p (by decide) hp
    rw [sg32] at this; exact this
def mgL : List Nat → Nat × Nat → Nat × Nat
  | [], p => p
  | k :: r, p => mgL r (p.2, p.1 ^^^ gN (wa p.2 k))
theorem mgL_snoc (l : List Nat) (k : Nat) : ∀ p, mgL (l ++ [k]) p = ((mgL l p).2, (mgL l p).1 ^^^ gN (wa (mgL l p).2 k)) := by
  induction l with
  | nil => intro p; rfl
  | cons a l ih => intro p; exact ih _
theorem mgI_cons (a : Nat) (r : List Nat) (d : Nat) : ∀ (i : Nat) (p : Nat × Nat), mgI (a :: r) (i + 1) d p = mgI r i d p := by
  induction d with
  | zero => intro _ _; rfl
  | succ d ih => intro i p; exact ih (i + 1) _
theorem mgI_L (l : List Nat) : ∀ p, mgI l 0 l.length p = mgL l p := by
  induction l with
  | nil => intro p; rfl
  | cons a r ih =>
    intro p
    show mgI (a :: r) (0 + 1) r.length (p.2, p.1 ^^^ gN (wa p.2 a)) = _
    rw [mgI_cons]; exact ih _
def sw (p : Nat × Nat) : Nat × Nat := (p.2, p.1)
theorem mg_inv (l : List Nat) : ∀ p, sw (mgL l.reverse (sw (mgL l p))) = p := by
  induction l with
  | nil => intro p; rfl
  | cons k t ih =>
    intro p
    have h := ih (p.2, p.1 ^^^ gN (wa p.2 k))
    have h2 : mgL t.reverse (sw (mgL t (p.2, p.1 ^^^ gN (wa p.2 k)))) = (p.1 ^^^ gN (wa p.2 k), p.2) := by
      have := congrArg sw h
      exact this
    rw [List.reverse_cons, mgL_snoc]
    show sw ((mgL t.reverse (sw (mgL t (p.2, p.1 ^^^ gN (wa p.2 k))))).2, (mgL t.reverse (sw (mgL t (p.2, p.1 ^^^ gN (wa p.2 k))))).1 ^^^ gN (wa (mgL t.reverse (sw (mgL t (p.2, p.1 ^^^ gN (wa p.2 k))))).2 k)) = p
    rw [h2]
    show (p.1 ^^^ gN (wa p.2 k) ^^^ gN (wa p.2 k), p.2) = p
    rw [Nat.xor_assoc, Nat.xor_self, Nat.xor_zero]
theorem sched_length {K : List Nat} (h : K.length = 8) (b : Bool) : (sched K b).length = 32 := by
  unfold sched; cases b <;> simp [h]
theorem mag_mgL {K : List Nat} (h : K.length = 8) (b : Bool) (p : Nat × Nat) : mag K b p = sw (mgL (sched K b) p) := by
  have := mgI_L (sched K b) p
  rw [sched_length h b] at this
  unfold mag sw; rw [this]
theorem mag_inv {K : List Nat} (h : K.length = 8) (b : Bool) (p : Nat × Nat) : mag K (!b) (mag K b p) = p := by
  rw [mag_mgL h, mag_mgL h]
  have e : sched K (!b) = (sched K b).reverse := by
    unfold sched; cases b <;> simp
  rw [e]; exact mg_inv _ p
theorem xxb {a b : Nat} : (a ^^^ b) ^^^ b = a := by rw [Nat.xor_assoc, Nat.xor_self, Nat.xor_zero]
theorem un5 {x y a s : Nat} (hx : x < 4294967296) (ha : a < 4294967296) (hs : s < 4294967296) : rolN (ws (wa (rolN (x ^^^ a) (a % 32)) s) s) ((32 - a % 32) % 32) ^^^ a = x := by
  rw [ws_wa (rolN_lt (x32 hx ha)) hs, rol_inv (x32 hx ha) (Nat.mod_lt _ (by decide)), xxb]
theorem re5 {x a s : Nat} (hx : x < 4294967296) (ha : a < 4294967296) (hs : s < 4294967296) : wa (rolN ((rolN (ws x s) ((32 - a % 32) % 32) ^^^ a) ^^^ a) (a % 32)) s = x := by
  rw [xxb, rol_inv' (ws_lt _ _) (Nat.mod_lt _ (by decide)), wa_ws hx hs]
theorem dS_eS (S : List Nat) (i : Nat) (hS : ∀ x ∈ S, x < 4294967296) {p : Nat × Nat} (hp : Wd p) : dS S i (eS S i p) = p := by
  have g := fun j => getW hS j
  obtain ⟨a, ea⟩ : ∃ a, a = wa (rolN (p.1 ^^^ p.2) (p.2 % 32)) (S.getD (2 * i) 0) := ⟨_, rfl⟩
  have ha : a < 4294967296 := ea ▸ wa_lt _ _
  have e : eS S i p = (a, wa (rolN (p.2 ^^^ a) (a % 32)) (S.getD (2 * i + 1) 0)) := by unfold eS; rw [← ea]
  have hb : dB S i (eS S i p) = p.2 := by
    rw [e]; exact un5 (y := 0) hp.2 ha (g _)
  unfold dS
  rw [hb, e]
  show (rolN (ws a (S.getD (2 * i) 0)) ((32 - p.2 % 32) % 32) ^^^ p.2, p.2) = p
  rw [ea, un5 (y := 0) hp.1 hp.2 (g _)]
theorem eS_dS (S : List Nat) (i : Nat) (hS : ∀ x ∈ S, x < 4294967296) {p : Nat × Nat} (hp : Wd p) : eS S i (dS S i p) = p := by
  have g := fun j => getW hS j
  have hb := dB_lt S i hp
  have h1 : wa (rolN ((dS S i p).1 ^^^ (dS S i p).2) ((dS S i p).2 % 32)) (S.getD (2 * i) 0) = p.1 := re5 hp.1 hb (g _)
  unfold eS
  rw [h1]
  have h2 : wa (rolN ((dS S i p).2 ^^^ p.1) (p.1 % 32)) (S.getD (2 * i + 1) 0) = p.2 := re5 hp.2 hp.1 (g _)
  rw [h2]
theorem e5_snoc (S : List Nat) (d : Nat) : ∀ (i : Nat) (p : Nat × Nat), e5 S (d + 1) i p = eS S (i + d) (e5 S d i p) := by
  induction d with
  | zero => intro i p; rfl
  | succ d ih =>
    intro i p
    show e5 S (d + 1) (i + 1) (eS S i p) = _
    rw [ih, show i + 1 + d = i + (d + 1) by omega]; rfl
theorem d5_e5 (S : List Nat) (hS : ∀ x ∈ S, x < 4294967296) (d : Nat) : ∀ (p : Nat × Nat), Wd p → d5 S d (e5 S d 1 p) = p := by
  induction d with
  | zero => intro p _; rfl
  | succ d ih =>
    intro p hp
    rw [e5_snoc, show 1 + d = d + 1 by omega]
    show d5 S d (dS S (d + 1) (eS S (d + 1) (e5 S d 1 p))) = p
    rw [dS_eS S _ hS (e5_wd S d 1 p hp)]; exact ih p hp
theorem e5_d5 (S : List Nat) (hS : ∀ x ∈ S, x < 4294967296) (d : Nat) : ∀ (p : Nat × Nat), Wd p → e5 S d 1 (d5 S d p) = p := by
  induction d with
  | zero => intro p _; rfl
  | succ d ih =>
    intro p hp
    show e5 S (d + 1) 1 (d5 S d (dS S (d + 1) p)) = p
    rw [e5_snoc, show 1 + d = d + 1 by omega, ih _ (dS_wd S _ hp), eS_dS S _ hS hp]
theorem r5_inv (S : List Nat) (hS : ∀ x ∈ S, x < 4294967296) (b : Bool) {p : Nat × Nat} (hp : Wd p) : r5 S (!b) (r5 S b p) = p := by
  have g := fun j => getW hS j
  cases b
  · show (ws (d5 S 12 (e5 S 12 1 (wa p.1 (S.getD 0 0), wa p.2 (S.getD 1 0)))).1 (S.getD 0 0), ws (d5 S 12 (e5 S 12 1 (wa p.1 (S.getD 0 0), wa p.2 (S.getD 1 0)))).2 (S.getD 1 0)) = p
    rw [d5_e5 S hS 12 _ ⟨wa_lt _ _, wa_lt _ _⟩, ws_wa hp.1 (g _), ws_wa hp.2 (g _)]
  · have hd := d5_wd S 12 p hp
    show e5 S 12 1 (wa (ws (d5 S 12 p).1 (S.getD 0 0)) (S.getD 0 0), wa (ws (d5 S 12 p).2 (S.getD 1 0)) (S.getD 1 0)) = p
    rw [wa_ws hd.1 (g _), wa_ws hd.2 (g _)]
    exact e5_d5 S hS 12 p hp
theorem dig_big {x y z w : Nat} (hx : x < 256) (hy : y < 256) (hz : z < 256) (hw : w < 256) : dig (bigN [x, y, z, w]) 4 = [x, y, z, w] := by
  rw [dig4]; simp only [bigN, List.foldl, Nat.shiftRight_eq_div_pow, List.cons.injEq, and_true]
  refine ⟨?_, ?_, ?_, ?_⟩ <;> omega
theorem B2_f8 (a b c d e f g i : Nat) : B2 false [a, b, c, d, e, f, g, i] = (bigN [a, b, c, d], bigN [e, f, g, i]) := by
  unfold B2; simp only [W, List.getD_cons_zero, List.getD_cons_succ, Bool.false_eq_true, if_false]
theorem B2_t8 (a b c d e f g i : Nat) : B2 true [a, b, c, d, e, f, g, i] = (bigN [d, c, b, a], bigN [i, g, f, e]) := by
  unfold B2; simp only [W, List.getD_cons_zero, List.getD_cons_succ, if_true]
theorem B2_outB {p : Nat × Nat} (hp : Wd p) : B2 false (outB p) = p := by
  have h1 := big_dig4 p.1 hp.1
  have h2 := big_dig4 p.2 hp.2
  rw [dig4] at h1 h2
  unfold outB; rw [dig4, dig4]
  simp only [List.cons_append, List.nil_append, B2_f8, h1, h2]
theorem B2_outL {p : Nat × Nat} (hp : Wd p) : B2 true (outL p) = p := by
  have h1 := big_dig4 p.1 hp.1
  have h2 := big_dig4 p.2 hp.2
  rw [dig4] at h1 h2
  unfold outL digR; rw [dig4, dig4]
  simp only [List.reverse_cons, List.reverse_nil, List.cons_append, List.nil_append, B2_t8, h1, h2]
theorem outB_B2 {m : List Nat} (h : m.length = 8) (hm : ∀ x ∈ m, x < 256) : outB (B2 false m) = m := by
  obtain ⟨a, b, c, d, e, f, g, i, rfl⟩ := eight h
  have e1 := dig_big (hm a (by simp)) (hm b (by simp)) (hm c (by simp)) (hm d (by simp))
  have e2 := dig_big (hm e (by simp)) (hm f (by simp)) (hm g (by simp)) (hm i (by simp))
  show dig (bigN [a, b, c, d]) 4 ++ dig (bigN [e, f, g, i]) 4 = _
  rw [e1, e2]; rfl
theorem outL_B2 {m : List Nat} (h : m.length = 8) (hm : ∀ x ∈ m, x < 256) : outL (B2 true m) = m := by
  obtain ⟨a, b, c, d, e, f, g, i, rfl⟩ := eight h
  have e1 := dig_big (hm d (by simp)) (hm c (by simp)) (hm b (by simp)) (hm a (by simp))
  have e2 := dig_big (hm i (by simp)) (hm g (by simp)) (hm f (by simp)) (hm e (by simp))
  show (dig (bigN [d, c, b, a]) 4).reverse ++ (dig (bigN [i, g, f, e]) 4).reverse = _
  rw [e1, e2]; rfl
theorem outB_ok (p : Nat × Nat) : (outB p).length = 8 ∧ ∀ x ∈ outB p, x < 256 := by
  refine ⟨by unfold outB; rw [dig4, dig4]; rfl, fun x hx => ?_⟩
  unfold outB at hx
  rcases List.mem_append.1 hx with hx | hx <;> exact dig_lt _ _ x hx
theorem outL_ok (p : Nat × Nat) : (outL p).length = 8 ∧ ∀ x ∈ outL p, x < 256 := by
  refine ⟨by unfold outL digR; rw [dig4, dig4]; rfl, fun x hx => ?_⟩
  unfold outL digR at hx
  rcases List.mem_append.1 hx with hx | hx <;> exact dig_lt _ _ x (by simpa using hx)
/-- A cipher: what Block makes by it, and its laws. -/
structure Cip (S : List Int × Int) (bl : Bool → List Nat → List Nat) : Prop where
  run : ∀ {m : List Nat} (dir : Bool) {k : Nat}, m.length = 8 → (∀ x ∈ m, x < 256) → 120 ≤ k → small_Small_Block.f k S (il m) dir = some (il (bl dir m), 0)
  len : ∀ {m : List Nat} (dir : Bool), (bl dir m).length = 8
  lt : ∀ {m : List Nat} (dir : Bool), ∀ x ∈ bl dir m, x < 256
  inv : ∀ {m : List Nat} (dir : Bool), m.length = 8 → (∀ x ∈ m, x < 256) → bl (!dir) (bl dir m) = m
def sz : Nat → Nat | 1 => 32 | _ => 16
def tagN : Nat → Nat | 0 => 4 | 1 => 5 | _ => 8
theorem new_any {j : Nat} (hj : j < 3) {m : List Nat} (h : m.length = sz j) (hm : ∀ x ∈ m, x < 256) : ∃ S bl, (∀ k, 200 ≤ k → small_New.f k (tagN j : Int) (il m) = some (some S, 0)) ∧ Cip S bl := by
  match j, hj, h with
  | 0, _, h =>
    have hl := W_length false 4 m h
    refine ⟨_, fun dir m' => outB (xt (W false m) dir (B2 false m')), fun k hk => new4 h hm (by omega), ⟨fun dir _ h' hm' hk => block4 hl h' hm' dir hk, fun dir => (outB_ok _).1, fun dir => (outB_ok _).2, fun dir h' hm' => ?_⟩⟩
    show outB (xt _ _ (B2 false (outB (xt _ _ (B2 false _))))) = _
    rw [B2_outB (xt_wd _ _ (B2_wd false h' hm')), xt_inv _ _ (B2_wd false h' hm'), outB_B2 h' hm']
  | 1, _, h =>
    have hl := W_length false 8 m h
    refine ⟨_, fun dir m' => outB (mag (W false m) dir (B2 false m')), fun k hk => new5 h hm (by omega), ⟨fun dir _ h' hm' hk => block5 hl h' hm' dir hk, fun dir => (outB_ok _).1, fun dir => (outB_ok _).2, fun dir h' hm' => ?_⟩⟩
    show outB (mag _ _ (B2 false (outB (mag _ _ (B2 false _))))) = _
    rw [B2_outB (mag_wd _ _ (B2_wd false h' hm')), mag_inv hl, outB_B2 h' hm']
  | 2, _, h =>
    refine ⟨_, fun dir m' => outL (r5 (s5 (W true m)) dir (B2 true m')), fun k hk => new8 h hm hk, ⟨fun dir _ h' hm' hk => block8 (s5_length _) (s5_lt _) h' hm' dir hk, fun dir => (outL_ok _).1, fun dir => (outL_ok _).2, fun dir h' hm' => ?_⟩⟩
    show outL (r5 _ _ (B2 true (outL (r5 _ _ (B2 true _))))) = _
    rw [B2_outL (r5_wd _ _ (B2_wd true h' hm')), r5_inv _ (s5_lt _) _ (B2_wd true h' hm'), outL_B2 h' hm']
end Go.Scr.S
