/- The digest in plain words: rounds, blocks, padding. No program here. -/
import Derived.Test.YtejhjlfakfaegaaOct
set_option linter.unusedSimpArgs false
set_option linter.unusedVariables false
namespace Go.Proofs.Ytejhjlfakfaegaa
open Go.RowKit Go.Proofs.YtejhjlfakfaegaaW.PrintWords

/-- bits turned to the right -/
def rot (n : Nat) (x : Int) : Int := bits .or .u32 (x / 2 ^ n) (x * 2 ^ (32 - n) % 4294967296)
def xr (a b : Int) : Int := bits .xor .u32 a b
def an (a b : Int) : Int := bits .and .u32 a b
def no (a : Int) : Int := xr 4294967295 a
def ad (a b : Int) : Int := (a + b) % 4294967296
/-- is a word -/
def W32 (x : Int) : Prop := 0 ≤ x ∧ x < 4294967296
theorem ad_w (a b : Int) : W32 (ad a b) := by unfold W32 ad; omega
theorem wrap_w (x : Int) : W32 (IntKind.u32.wrap x) := by rw [IntKind.wrap_u32]; unfold W32; omega
theorem bits_w (op : BinOp) (a b : Int) : W32 (bits op .u32 a b) := by unfold bits; exact wrap_w _
theorem xr_w (a b : Int) : W32 (xr a b) := bits_w _ _ _
theorem an_w (a b : Int) : W32 (an a b) := bits_w _ _ _
theorem rot_w (n : Nat) (x : Int) : W32 (rot n x) := bits_w _ _ _
def sg0 (x : Int) : Int := xr (xr (rot 7 x) (rot 18 x)) (x / 8)
def sg1 (x : Int) : Int := xr (xr (rot 17 x) (rot 19 x)) (x / 1024)
def Sg0 (x : Int) : Int := xr (xr (rot 2 x) (rot 13 x)) (rot 22 x)
def Sg1 (x : Int) : Int := xr (xr (rot 6 x) (rot 11 x)) (rot 25 x)
def chs (e f g : Int) : Int := xr (an e f) (an (no e) g)
def maj (a b c : Int) : Int := xr (xr (an a b) (an a c)) (an b c)

/-- words of a block -/
def w16 (b : List Int) (k : Nat) : List Int := (List.range k).map fun i => be ((b.drop (4 * i)).take 4)
/-- the next word -/
def wNext (w : List Int) : Int :=
  let n := w.length
  ad (ad (ad (nt w (n - 16)) (sg0 (nt w (n - 15)))) (nt w (n - 7))) (sg1 (nt w (n - 2)))
def wGo : Nat → List Int → List Int
  | 0, w => w
  | k + 1, w => wGo k (w ++ [wNext w])
/-- all sixty-four words -/
def words (b : List Int) : List Int := wGo 48 (w16 b 16)

/-- one round: eight words become eight -/
def rnd (k w : Int) : List Int → List Int
  | [a, b, c, d, e, f, g, h] =>
    let one := ad (ad (ad (ad h (Sg1 e)) (chs e f g)) k) w
    let two := ad (Sg0 a) (maj a b c)
    [ad one two, a, b, c, ad d one, e, f, g]
  | v => v
def rounds (ks ws : List Int) : Nat → List Int → List Int
  | 0, v => v
  | n + 1, v => rnd (nt ks n) (nt ws n) (rounds ks ws n v)
def addAll (a b : List Int) : List Int := (List.range 8).map fun i => ad (nt a i) (nt b i)
/-- behind a block -/
def blk (ks h b : List Int) : List Int := addAll h (rounds ks (words b) 64 h)
/-- behind all whole blocks, and what is left -/
def absorb (ks : List Int) : Nat → List Int → List Int → List Int × List Int
  | 0, h, m => (h, m)
  | n + 1, h, m => if 64 ≤ m.length then absorb ks n (blk ks h (m.take 64)) (m.drop 64) else (h, m)
def h0s : List Int := [1779033703, 3144134277, 1013904242, 2773480762, 1359893119, 2600822924, 528734635, 1541459225]
def kst : List Int := [1116352408, 1899447441, 3049323471, 3921009573, 961987163, 1508970993, 2453635748, 2870763221, 3624381080, 310598401, 607225278, 1426881987, 1925078388, 2162078206, 2614888103, 3248222580, 3835390401, 4022224774, 264347078, 604807628, 770255983, 1249150122, 1555081692, 1996064986, 2554220882, 2821834349, 2952996808, 3210313671, 3336571891, 3584528711, 113926993, 338241895, 666307205, 773529912, 1294757372, 1396182291, 1695183700, 1986661051, 2177026350, 2456956037, 2730485921, 2820302411, 3259730800, 3345764771, 3516065817, 3600352804, 4094571909, 275423344, 430227734, 506948616, 659060556, 883997877, 958139571, 1322822218, 1537002063, 1747873779, 1955562222, 2024104815, 2227730452, 2361852424, 2428436474, 2756734187, 3204031479, 3329325298]
def padded (m : List Int) : List Int := m ++ 128 :: (List.replicate ((119 - m.length % 64) % 64) 0 ++ putBytes (8 * m.length))
def out32 (h : List Int) : List Int := (List.range 8).flatMap fun i => (putBytes (nt h i)).drop 4
/-- the digest -/
def sha (m : List Int) : List Int := out32 (absorb kst (m.length + 64) h0s (padded m)).1
example : (sha [97, 98, 99]).take 4 = [186, 120, 22, 191] := by decide +kernel
end Go.Proofs.Ytejhjlfakfaegaa
