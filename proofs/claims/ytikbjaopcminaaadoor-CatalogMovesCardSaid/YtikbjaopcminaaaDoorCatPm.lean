/- What follows of Remove, Put and Move at an entry of a valid catalog; plain. -/
import Derived.Test.YtikbjaopcminaaaDoorCatPl
namespace Go.Proofs.YtikbjaopcminaaaDoor
set_option maxRecDepth 100000
/-- The entries without the one at k. -/
def remL (l : List Ep) (k : Nat) : List Ep := l.take k ++ l.drop (k + 1)
theorem RemR.at_ {c : Cp} {id : ByteArray} {a : Cp} {n : Int} {k : Nat} (hv : validC c = true) (hk : k < c.es.length) (hid : c.es[k].id = id) (h : RemR c id a n) :
    n = 0 ∧ a = c.w (remL c.es k) ∧ validC a = true ∧ FindZ a.es id (-1) := by
  obtain ⟨_, p2, p3⟩ := validC_parts.1 hv
  have hf := p3.find hk hid
  rcases h with ⟨h, _⟩ | ⟨_, h, _⟩ | ⟨_, j, hj, _, hn, ha⟩
  · rw [hv] at h; cases h
  · have := h.uniq hf; omega
  · have e : j = k := by have := hj.uniq hf; omega
    subst e
    have ha' : a = c.w (remL c.es j) := ha
    subst ha'
    refine ⟨hn, rfl, validC_w hv ?_ (p3.sub (rem_sub _ _)), findZ_none_of fun y hy => ?_⟩
    · have := rem_len c.es j hk
      show (c.es.take j ++ c.es.drop (j + 1)).length ≤ 1000
      omega
    · have h9 := (esOk_iff.1 (p3.perm (rem_perm c.es j hk).symm)).2
      rw [List.map_cons, List.nodup_cons] at h9
      intro e
      exact h9.1 (List.mem_map.2 ⟨y, hy, by rw [e, hid]⟩)
theorem put_back {c : Cp} {k : Nat} (hv : validC c = true) (hk : k < c.es.length) {b : Cp} {m : Int} (ha : validC (c.w (remL c.es k)) = true) (hf : FindZ (remL c.es k) c.es[k].id (-1)) (h : PutR (c.w (remL c.es k)) c.es[k] (k : Int) b m) : b = c ∧ m = 0 := by
  obtain ⟨_, p2, p3⟩ := validC_parts.1 hv
  have hl : (c.w (remL c.es k)).es.length = c.es.length - 1 := rem_len c.es k hk
  rcases h with ⟨h | h, _⟩ | ⟨_, _, ⟨j, hj, _⟩ | ⟨_, ⟨h, _⟩ | ⟨q, hq, _, ⟨h, _⟩ | ⟨_, hm, hb⟩⟩⟩⟩
  · rw [ha] at h; cases h
  · rw [(p3 k hk).1] at h; cases h
  · have : (j : Int) = -1 := hj.uniq hf
    omega
  · omega
  · omega
  · have e : q = k := by omega
    subst e
    refine ⟨?_, hm⟩
    rw [hb]
    have h9 := rem_ins c.es q hk
    show (⟨c.tag, c.com, c.fd, (c.es.take q ++ c.es.drop (q + 1)).take q ++ [c.es[q]] ++ (c.es.take q ++ c.es.drop (q + 1)).drop q⟩ : Cp) = c
    rw [h9]
theorem MovR.at_ {c : Cp} {id : ByteArray} {at_ : Int} {a : Cp} {n : Int} {k : Nat} (hv : validC c = true) (hk : k < c.es.length) (hid : c.es[k].id = id) (h : MovR c id at_ a n) :
    ((at_ < 0 ∨ (c.es.length : Int) ≤ at_) ∧ n = 2) ∨ ∃ q : Nat, at_ = q ∧ q < c.es.length ∧ n = 0 ∧ a = c.w ((remL c.es k).take q ++ [c.es[k]] ++ (remL c.es k).drop q) ∧ validC a = true ∧ FindZ a.es id (q : Int) := by
  obtain ⟨_, p2, p3⟩ := validC_parts.1 hv
  have hf := p3.find hk hid
  obtain ⟨c1, n1, hr, h⟩ := h
  obtain ⟨h0, h1, h2, h3⟩ := hr.at_ hv hk hid
  rcases h with ⟨h, _⟩ | ⟨_, h, _, hn⟩ | ⟨_, q, j, hq, hql, hj, hjl, hn, ha⟩
  · exact absurd h0 h
  · exact .inl ⟨h, hn⟩
  · have e : j = k := by have := hj.uniq hf; omega
    subst e
    subst h1
    have hl : (remL c.es j).length = c.es.length - 1 := rem_len c.es j hk
    have ha' : a = c.w ((remL c.es j).take q ++ [c.es[j]] ++ (remL c.es j).drop q) := ha
    have hok := ((p3.perm (rem_perm c.es j hk).symm).perm (ins_perm (remL c.es j) c.es[j] q))
    obtain ⟨hl2, hget⟩ := ins_at (remL c.es j) c.es[j] q (by omega)
    refine .inr ⟨q, hq, hql, hn, ha', ?_, ?_⟩
    · rw [ha']; exact validC_w hv (by omega) hok
    · rw [ha']
      exact EsOk.find hok (by omega) (by rw [hget]; exact hid)
theorem mov_back {c : Cp} {k q : Nat} (hk : k < c.es.length) (hq : q < c.es.length) {a b : Cp} {m : Int} (ha : a = c.w ((remL c.es k).take q ++ [c.es[k]] ++ (remL c.es k).drop q)) (hv : validC a = true) (h : MovR a c.es[k].id (k : Int) b m) : b = c ∧ m = 0 := by
  have hl : (remL c.es k).length = c.es.length - 1 := rem_len c.es k hk
  obtain ⟨hl2, hget⟩ := ins_at (remL c.es k) c.es[k] q (by omega)
  have hal : a.es.length = c.es.length := by rw [ha]; show ((remL c.es k).take q ++ [c.es[k]] ++ (remL c.es k).drop q).length = _; omega
  have hae : a.es = (remL c.es k).take q ++ [c.es[k]] ++ (remL c.es k).drop q := by rw [ha]; rfl
  have haq : a.es[q]'(by omega) = c.es[k] := by
    have h9 := hget (by omega)
    simp only [hae]
    exact h9
  rcases h.at_ hv (k := q) (by omega) (by rw [haq]) with ⟨h9, _⟩ | ⟨j, hj, _, hn, hb, _⟩
  · omega
  · have e : j = k := by omega
    subst e
    refine ⟨?_, hn⟩
    have h8 : remL a.es q = remL c.es j := by
      unfold remL
      rw [hae, ins_rem _ _ _ (by omega)]
      rfl
    rw [hb, h8, haq]
    have h9 := rem_ins c.es j hk
    rw [ha]
    show (⟨c.tag, c.com, c.fd, (c.es.take j ++ c.es.drop (j + 1)).take j ++ [c.es[j]] ++ (c.es.take j ++ c.es.drop (j + 1)).drop j⟩ : Cp) = c
    rw [h9]
end Go.Proofs.YtikbjaopcminaaaDoor
