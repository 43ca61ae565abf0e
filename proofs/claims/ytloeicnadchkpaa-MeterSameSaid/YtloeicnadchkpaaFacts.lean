/- Facts of this seat that hold for each of its rows: the head of the translation, read sign by sign; what the form of claims asks of the whole program. No condition. (Written by a program of ours.) -/
import Derived.Test.YtloeicnadchkpaaFrame
namespace Go.Proofs.Ytloeicnadchkpaa
open Go.ChangeShapes Go.WideShapes Go.ChangeAt Go.RowKit Go.Sl
set_option maxRecDepth 100000
theorem words_app (r : List Char) : ∀ (w : List Char), (∀ c ∈ w, c ≠ Char.ofNat 32) → wordsSigns (w ++ Char.ofNat 32 :: r) = w :: wordsSigns r
  | [], _ => rfl
  | c :: w, h => by
    have hc : c ≠ Char.ofNat 32 := h c (.head _)
    have ih := words_app r w (fun x hx => h x (.tail _ hx))
    show wordsSigns (c :: (w ++ Char.ofNat 32 :: r)) = _
    rw [wordsSigns.eq_3 _ _ hc, ih]
def mainSigns : List Char := [
  Char.ofNat 104, Char.ofNat 97, Char.ofNat 114, Char.ofNat 110, Char.ofNat 101, Char.ofNat 115, Char.ofNat 115]
def sumSigns : List Char := [
  Char.ofNat 48, Char.ofNat 48, Char.ofNat 49, Char.ofNat 50, Char.ofNat 57, Char.ofNat 51, Char.ofNat 100, Char.ofNat 48, Char.ofNat 52, Char.ofNat 98, Char.ofNat 102, Char.ofNat 50,
  Char.ofNat 56, Char.ofNat 49, Char.ofNat 49, Char.ofNat 99, Char.ofNat 55, Char.ofNat 53, Char.ofNat 57, Char.ofNat 97, Char.ofNat 97, Char.ofNat 51, Char.ofNat 49, Char.ofNat 51,
  Char.ofNat 53, Char.ofNat 57, Char.ofNat 101, Char.ofNat 57, Char.ofNat 48, Char.ofNat 102, Char.ofNat 99, Char.ofNat 102, Char.ofNat 54, Char.ofNat 98, Char.ofNat 56, Char.ofNat 98,
  Char.ofNat 50, Char.ofNat 100, Char.ofNat 48, Char.ofNat 100, Char.ofNat 97, Char.ofNat 57, Char.ofNat 52, Char.ofNat 57, Char.ofNat 98, Char.ofNat 97, Char.ofNat 52, Char.ofNat 51,
  Char.ofNat 49, Char.ofNat 51, Char.ofNat 98, Char.ofNat 48, Char.ofNat 101, Char.ofNat 55, Char.ofNat 56, Char.ofNat 51, Char.ofNat 101, Char.ofNat 101, Char.ofNat 100, Char.ofNat 54,
  Char.ofNat 49, Char.ofNat 49, Char.ofNat 51, Char.ofNat 97]
def cutSigns : List Char := [
  Char.ofNat 99, Char.ofNat 117, Char.ofNat 116]
def restSigns : List Char := [
  Char.ofNat 97, Char.ofNat 116, Char.ofNat 32, Char.ofNat 98, Char.ofNat 97, Char.ofNat 99, Char.ofNat 107, Char.ofNat 115, Char.ofNat 116, Char.ofNat 105, Char.ofNat 116, Char.ofNat 99,
  Char.ofNat 104, Char.ofNat 47, Char.ofNat 98, Char.ofNat 97, Char.ofNat 99, Char.ofNat 107, Char.ofNat 115, Char.ofNat 116, Char.ofNat 105, Char.ofNat 116, Char.ofNat 99, Char.ofNat 104,
  Char.ofNat 108, Char.ofNat 97, Char.ofNat 119, Char.ofNat 49, Char.ofNat 49, Char.ofNat 46, Char.ofNat 82, Char.ofNat 101, Char.ofNat 97, Char.ofNat 99, Char.ofNat 104, Char.ofNat 84,
  Char.ofNat 101, Char.ofNat 108, Char.ofNat 108, Char.ofNat 115, Char.ofNat 32, Char.ofNat 98, Char.ofNat 97, Char.ofNat 99, Char.ofNat 107, Char.ofNat 115, Char.ofNat 116, Char.ofNat 105,
  Char.ofNat 116, Char.ofNat 99, Char.ofNat 104, Char.ofNat 47, Char.ofNat 98, Char.ofNat 97, Char.ofNat 99, Char.ofNat 107, Char.ofNat 115, Char.ofNat 116, Char.ofNat 105, Char.ofNat 116,
  Char.ofNat 99, Char.ofNat 104, Char.ofNat 108, Char.ofNat 97, Char.ofNat 119, Char.ofNat 49, Char.ofNat 49, Char.ofNat 46, Char.ofNat 82, Char.ofNat 101, Char.ofNat 97, Char.ofNat 99,
  Char.ofNat 104, Char.ofNat 75, Char.ofNat 110, Char.ofNat 111, Char.ofNat 119, Char.ofNat 110, Char.ofNat 32, Char.ofNat 98, Char.ofNat 97, Char.ofNat 99, Char.ofNat 107, Char.ofNat 115,
  Char.ofNat 116, Char.ofNat 105, Char.ofNat 116, Char.ofNat 99, Char.ofNat 104, Char.ofNat 47, Char.ofNat 98, Char.ofNat 97, Char.ofNat 99, Char.ofNat 107, Char.ofNat 115, Char.ofNat 116,
  Char.ofNat 105, Char.ofNat 116, Char.ofNat 99, Char.ofNat 104, Char.ofNat 108, Char.ofNat 97, Char.ofNat 119, Char.ofNat 49, Char.ofNat 49, Char.ofNat 46, Char.ofNat 82, Char.ofNat 101,
  Char.ofNat 97, Char.ofNat 99, Char.ofNat 104, Char.ofNat 67, Char.ofNat 111, Char.ofNat 117, Char.ofNat 110, Char.ofNat 116, Char.ofNat 115, Char.ofNat 32, Char.ofNat 98, Char.ofNat 97,
  Char.ofNat 99, Char.ofNat 107, Char.ofNat 115, Char.ofNat 116, Char.ofNat 105, Char.ofNat 116, Char.ofNat 99, Char.ofNat 104, Char.ofNat 47, Char.ofNat 98, Char.ofNat 97, Char.ofNat 99,
  Char.ofNat 107, Char.ofNat 115, Char.ofNat 116, Char.ofNat 105, Char.ofNat 116, Char.ofNat 99, Char.ofNat 104, Char.ofNat 108, Char.ofNat 97, Char.ofNat 119, Char.ofNat 49, Char.ofNat 49,
  Char.ofNat 46, Char.ofNat 82, Char.ofNat 101, Char.ofNat 97, Char.ofNat 99, Char.ofNat 104, Char.ofNat 82, Char.ofNat 111, Char.ofNat 111, Char.ofNat 116, Char.ofNat 115, Char.ofNat 32,
  Char.ofNat 98, Char.ofNat 97, Char.ofNat 99, Char.ofNat 107, Char.ofNat 115, Char.ofNat 116, Char.ofNat 105, Char.ofNat 116, Char.ofNat 99, Char.ofNat 104, Char.ofNat 47, Char.ofNat 98,
  Char.ofNat 97, Char.ofNat 99, Char.ofNat 107, Char.ofNat 115, Char.ofNat 116, Char.ofNat 105, Char.ofNat 116, Char.ofNat 99, Char.ofNat 104, Char.ofNat 108, Char.ofNat 97, Char.ofNat 119,
  Char.ofNat 49, Char.ofNat 49, Char.ofNat 46, Char.ofNat 82, Char.ofNat 101, Char.ofNat 97, Char.ofNat 99, Char.ofNat 104, Char.ofNat 67, Char.ofNat 104, Char.ofNat 97, Char.ofNat 105,
  Char.ofNat 110, Char.ofNat 115, Char.ofNat 32, Char.ofNat 98, Char.ofNat 97, Char.ofNat 99, Char.ofNat 107, Char.ofNat 115, Char.ofNat 116, Char.ofNat 105, Char.ofNat 116, Char.ofNat 99,
  Char.ofNat 104, Char.ofNat 47, Char.ofNat 98, Char.ofNat 97, Char.ofNat 99, Char.ofNat 107, Char.ofNat 115, Char.ofNat 116, Char.ofNat 105, Char.ofNat 116, Char.ofNat 99, Char.ofNat 104,
  Char.ofNat 108, Char.ofNat 97, Char.ofNat 119, Char.ofNat 49, Char.ofNat 54, Char.ofNat 46, Char.ofNat 76, Char.ofNat 111, Char.ofNat 99, Char.ofNat 107, Char.ofNat 75, Char.ofNat 110,
  Char.ofNat 111, Char.ofNat 119, Char.ofNat 110, Char.ofNat 32, Char.ofNat 98, Char.ofNat 97, Char.ofNat 99, Char.ofNat 107, Char.ofNat 115, Char.ofNat 116, Char.ofNat 105, Char.ofNat 116,
  Char.ofNat 99, Char.ofNat 104, Char.ofNat 47, Char.ofNat 98, Char.ofNat 97, Char.ofNat 99, Char.ofNat 107, Char.ofNat 115, Char.ofNat 116, Char.ofNat 105, Char.ofNat 116, Char.ofNat 99,
  Char.ofNat 104, Char.ofNat 108, Char.ofNat 97, Char.ofNat 119, Char.ofNat 49, Char.ofNat 53, Char.ofNat 46, Char.ofNat 83, Char.ofNat 99, Char.ofNat 104, Char.ofNat 101, Char.ofNat 100,
  Char.ofNat 65, Char.ofNat 108, Char.ofNat 108, Char.ofNat 32, Char.ofNat 98, Char.ofNat 97, Char.ofNat 99, Char.ofNat 107, Char.ofNat 115, Char.ofNat 116, Char.ofNat 105, Char.ofNat 116,
  Char.ofNat 99, Char.ofNat 104, Char.ofNat 47, Char.ofNat 98, Char.ofNat 97, Char.ofNat 99, Char.ofNat 107, Char.ofNat 115, Char.ofNat 116, Char.ofNat 105, Char.ofNat 116, Char.ofNat 99,
  Char.ofNat 104, Char.ofNat 108, Char.ofNat 97, Char.ofNat 119, Char.ofNat 49, Char.ofNat 53, Char.ofNat 46, Char.ofNat 83, Char.ofNat 99, Char.ofNat 104, Char.ofNat 101, Char.ofNat 100,
  Char.ofNat 76, Char.ofNat 105, Char.ofNat 109, Char.ofNat 105, Char.ofNat 116, Char.ofNat 32, Char.ofNat 98, Char.ofNat 97, Char.ofNat 99, Char.ofNat 107, Char.ofNat 115, Char.ofNat 116,
  Char.ofNat 105, Char.ofNat 116, Char.ofNat 99, Char.ofNat 104, Char.ofNat 47, Char.ofNat 98, Char.ofNat 97, Char.ofNat 99, Char.ofNat 107, Char.ofNat 115, Char.ofNat 116, Char.ofNat 105,
  Char.ofNat 116, Char.ofNat 99, Char.ofNat 104, Char.ofNat 108, Char.ofNat 97, Char.ofNat 119, Char.ofNat 49, Char.ofNat 53, Char.ofNat 46, Char.ofNat 83, Char.ofNat 99, Char.ofNat 104,
  Char.ofNat 101, Char.ofNat 100, Char.ofNat 66, Char.ofNat 111, Char.ofNat 114, Char.ofNat 110, Char.ofNat 32, Char.ofNat 98, Char.ofNat 97, Char.ofNat 99, Char.ofNat 107, Char.ofNat 115,
  Char.ofNat 116, Char.ofNat 105, Char.ofNat 116, Char.ofNat 99, Char.ofNat 104, Char.ofNat 47, Char.ofNat 98, Char.ofNat 97, Char.ofNat 99, Char.ofNat 107, Char.ofNat 115, Char.ofNat 116,
  Char.ofNat 105, Char.ofNat 116, Char.ofNat 99, Char.ofNat 104, Char.ofNat 108, Char.ofNat 97, Char.ofNat 119, Char.ofNat 49, Char.ofNat 53, Char.ofNat 46, Char.ofNat 83, Char.ofNat 99,
  Char.ofNat 104, Char.ofNat 101, Char.ofNat 100, Char.ofNat 67, Char.ofNat 117, Char.ofNat 116, Char.ofNat 115, Char.ofNat 32, Char.ofNat 98, Char.ofNat 97, Char.ofNat 99, Char.ofNat 107,
  Char.ofNat 115, Char.ofNat 116, Char.ofNat 105, Char.ofNat 116, Char.ofNat 99, Char.ofNat 104, Char.ofNat 47, Char.ofNat 98, Char.ofNat 97, Char.ofNat 99, Char.ofNat 107, Char.ofNat 115,
  Char.ofNat 116, Char.ofNat 105, Char.ofNat 116, Char.ofNat 99, Char.ofNat 104, Char.ofNat 108, Char.ofNat 97, Char.ofNat 119, Char.ofNat 49, Char.ofNat 53, Char.ofNat 46, Char.ofNat 83,
  Char.ofNat 99, Char.ofNat 104, Char.ofNat 101, Char.ofNat 100, Char.ofNat 82, Char.ofNat 117, Char.ofNat 110, Char.ofNat 115, Char.ofNat 32, Char.ofNat 98, Char.ofNat 97, Char.ofNat 99,
  Char.ofNat 107, Char.ofNat 115, Char.ofNat 116, Char.ofNat 105, Char.ofNat 116, Char.ofNat 99, Char.ofNat 104, Char.ofNat 47, Char.ofNat 98, Char.ofNat 97, Char.ofNat 99, Char.ofNat 107,
  Char.ofNat 115, Char.ofNat 116, Char.ofNat 105, Char.ofNat 116, Char.ofNat 99, Char.ofNat 104, Char.ofNat 108, Char.ofNat 97, Char.ofNat 119, Char.ofNat 49, Char.ofNat 53, Char.ofNat 46,
  Char.ofNat 83, Char.ofNat 99, Char.ofNat 104, Char.ofNat 101, Char.ofNat 100, Char.ofNat 75, Char.ofNat 110, Char.ofNat 111, Char.ofNat 119, Char.ofNat 110, Char.ofNat 32, Char.ofNat 98,
  Char.ofNat 97, Char.ofNat 99, Char.ofNat 107, Char.ofNat 115, Char.ofNat 116, Char.ofNat 105, Char.ofNat 116, Char.ofNat 99, Char.ofNat 104, Char.ofNat 47, Char.ofNat 98, Char.ofNat 97,
  Char.ofNat 99, Char.ofNat 107, Char.ofNat 115, Char.ofNat 116, Char.ofNat 105, Char.ofNat 116, Char.ofNat 99, Char.ofNat 104, Char.ofNat 108, Char.ofNat 97, Char.ofNat 119, Char.ofNat 50,
  Char.ofNat 53, Char.ofNat 46, Char.ofNat 77, Char.ofNat 101, Char.ofNat 116, Char.ofNat 101, Char.ofNat 114, Char.ofNat 67, Char.ofNat 111, Char.ofNat 117, Char.ofNat 110, Char.ofNat 116,
  Char.ofNat 115, Char.ofNat 32, Char.ofNat 98, Char.ofNat 97, Char.ofNat 99, Char.ofNat 107, Char.ofNat 115, Char.ofNat 116, Char.ofNat 105, Char.ofNat 116, Char.ofNat 99, Char.ofNat 104,
  Char.ofNat 47, Char.ofNat 98, Char.ofNat 97, Char.ofNat 99, Char.ofNat 107, Char.ofNat 115, Char.ofNat 116, Char.ofNat 105, Char.ofNat 116, Char.ofNat 99, Char.ofNat 104, Char.ofNat 108,
  Char.ofNat 97, Char.ofNat 119, Char.ofNat 50, Char.ofNat 53, Char.ofNat 46, Char.ofNat 77, Char.ofNat 101, Char.ofNat 116, Char.ofNat 101, Char.ofNat 114, Char.ofNat 83, Char.ofNat 97,
  Char.ofNat 109, Char.ofNat 101, Char.ofNat 32, Char.ofNat 98, Char.ofNat 97, Char.ofNat 99, Char.ofNat 107, Char.ofNat 115, Char.ofNat 116, Char.ofNat 105, Char.ofNat 116, Char.ofNat 99,
  Char.ofNat 104, Char.ofNat 47, Char.ofNat 98, Char.ofNat 97, Char.ofNat 99, Char.ofNat 107, Char.ofNat 115, Char.ofNat 116, Char.ofNat 105, Char.ofNat 116, Char.ofNat 99, Char.ofNat 104,
  Char.ofNat 108, Char.ofNat 97, Char.ofNat 119, Char.ofNat 50, Char.ofNat 53, Char.ofNat 46, Char.ofNat 77, Char.ofNat 101, Char.ofNat 116, Char.ofNat 101, Char.ofNat 114, Char.ofNat 83,
  Char.ofNat 117, Char.ofNat 109, Char.ofNat 115, Char.ofNat 32, Char.ofNat 98, Char.ofNat 97, Char.ofNat 99, Char.ofNat 107, Char.ofNat 115, Char.ofNat 116, Char.ofNat 105, Char.ofNat 116,
  Char.ofNat 99, Char.ofNat 104, Char.ofNat 47, Char.ofNat 98, Char.ofNat 97, Char.ofNat 99, Char.ofNat 107, Char.ofNat 115, Char.ofNat 116, Char.ofNat 105, Char.ofNat 116, Char.ofNat 99,
  Char.ofNat 104, Char.ofNat 108, Char.ofNat 97, Char.ofNat 119, Char.ofNat 50, Char.ofNat 53, Char.ofNat 46, Char.ofNat 77, Char.ofNat 101, Char.ofNat 116, Char.ofNat 101, Char.ofNat 114,
  Char.ofNat 83, Char.ofNat 112, Char.ofNat 114, Char.ofNat 101, Char.ofNat 97, Char.ofNat 100, Char.ofNat 32, Char.ofNat 98, Char.ofNat 97, Char.ofNat 99, Char.ofNat 107, Char.ofNat 115,
  Char.ofNat 116, Char.ofNat 105, Char.ofNat 116, Char.ofNat 99, Char.ofNat 104, Char.ofNat 47, Char.ofNat 98, Char.ofNat 97, Char.ofNat 99, Char.ofNat 107, Char.ofNat 115, Char.ofNat 116,
  Char.ofNat 105, Char.ofNat 116, Char.ofNat 99, Char.ofNat 104, Char.ofNat 108, Char.ofNat 97, Char.ofNat 119, Char.ofNat 50, Char.ofNat 53, Char.ofNat 46, Char.ofNat 77, Char.ofNat 101,
  Char.ofNat 116, Char.ofNat 101, Char.ofNat 114, Char.ofNat 75, Char.ofNat 110, Char.ofNat 111, Char.ofNat 119, Char.ofNat 110, Char.ofNat 32, Char.ofNat 98, Char.ofNat 97, Char.ofNat 99,
  Char.ofNat 107, Char.ofNat 115, Char.ofNat 116, Char.ofNat 105, Char.ofNat 116, Char.ofNat 99, Char.ofNat 104, Char.ofNat 47, Char.ofNat 98, Char.ofNat 97, Char.ofNat 99, Char.ofNat 107,
  Char.ofNat 115, Char.ofNat 116, Char.ofNat 105, Char.ofNat 116, Char.ofNat 99, Char.ofNat 104, Char.ofNat 108, Char.ofNat 97, Char.ofNat 119, Char.ofNat 49, Char.ofNat 55, Char.ofNat 46,
  Char.ofNat 76, Char.ofNat 97, Char.ofNat 116, Char.ofNat 99, Char.ofNat 104, Char.ofNat 87, Char.ofNat 111, Char.ofNat 114, Char.ofNat 107, Char.ofNat 115, Char.ofNat 32, Char.ofNat 98,
  Char.ofNat 97, Char.ofNat 99, Char.ofNat 107, Char.ofNat 115, Char.ofNat 116, Char.ofNat 105, Char.ofNat 116, Char.ofNat 99, Char.ofNat 104, Char.ofNat 47, Char.ofNat 98, Char.ofNat 97,
  Char.ofNat 99, Char.ofNat 107, Char.ofNat 115, Char.ofNat 116, Char.ofNat 105, Char.ofNat 116, Char.ofNat 99, Char.ofNat 104, Char.ofNat 108, Char.ofNat 97, Char.ofNat 119, Char.ofNat 49,
  Char.ofNat 54, Char.ofNat 46, Char.ofNat 76, Char.ofNat 111, Char.ofNat 99, Char.ofNat 107, Char.ofNat 84, Char.ofNat 117, Char.ofNat 114, Char.ofNat 110, Char.ofNat 115, Char.ofNat 32,
  Char.ofNat 98, Char.ofNat 97, Char.ofNat 99, Char.ofNat 107, Char.ofNat 115, Char.ofNat 116, Char.ofNat 105, Char.ofNat 116, Char.ofNat 99, Char.ofNat 104, Char.ofNat 47, Char.ofNat 98,
  Char.ofNat 97, Char.ofNat 99, Char.ofNat 107, Char.ofNat 115, Char.ofNat 116, Char.ofNat 105, Char.ofNat 116, Char.ofNat 99, Char.ofNat 104, Char.ofNat 108, Char.ofNat 97, Char.ofNat 119,
  Char.ofNat 49, Char.ofNat 55, Char.ofNat 46, Char.ofNat 76, Char.ofNat 97, Char.ofNat 116, Char.ofNat 99, Char.ofNat 104, Char.ofNat 80, Char.ofNat 108, Char.ofNat 97, Char.ofNat 121,
  Char.ofNat 115, Char.ofNat 32, Char.ofNat 98, Char.ofNat 97, Char.ofNat 99, Char.ofNat 107, Char.ofNat 115, Char.ofNat 116, Char.ofNat 105, Char.ofNat 116, Char.ofNat 99, Char.ofNat 104,
  Char.ofNat 47, Char.ofNat 98, Char.ofNat 97, Char.ofNat 99, Char.ofNat 107, Char.ofNat 115, Char.ofNat 116, Char.ofNat 105, Char.ofNat 116, Char.ofNat 99, Char.ofNat 104, Char.ofNat 108,
  Char.ofNat 97, Char.ofNat 119, Char.ofNat 49, Char.ofNat 55, Char.ofNat 46, Char.ofNat 76, Char.ofNat 97, Char.ofNat 116, Char.ofNat 99, Char.ofNat 104, Char.ofNat 75, Char.ofNat 110,
  Char.ofNat 111, Char.ofNat 119, Char.ofNat 110, Char.ofNat 32, Char.ofNat 98, Char.ofNat 97, Char.ofNat 99, Char.ofNat 107, Char.ofNat 115, Char.ofNat 116, Char.ofNat 105, Char.ofNat 116,
  Char.ofNat 99, Char.ofNat 104, Char.ofNat 47, Char.ofNat 98, Char.ofNat 97, Char.ofNat 99, Char.ofNat 107, Char.ofNat 115, Char.ofNat 116, Char.ofNat 105, Char.ofNat 116, Char.ofNat 99,
  Char.ofNat 104, Char.ofNat 108, Char.ofNat 97, Char.ofNat 119, Char.ofNat 49, Char.ofNat 55, Char.ofNat 46, Char.ofNat 76, Char.ofNat 97, Char.ofNat 116, Char.ofNat 99, Char.ofNat 104,
  Char.ofNat 85, Char.ofNat 112, Char.ofNat 115, Char.ofNat 32, Char.ofNat 98, Char.ofNat 97, Char.ofNat 99, Char.ofNat 107, Char.ofNat 115, Char.ofNat 116, Char.ofNat 105, Char.ofNat 116,
  Char.ofNat 99, Char.ofNat 104, Char.ofNat 47, Char.ofNat 98, Char.ofNat 97, Char.ofNat 99, Char.ofNat 107, Char.ofNat 115, Char.ofNat 116, Char.ofNat 105, Char.ofNat 116, Char.ofNat 99,
  Char.ofNat 104, Char.ofNat 108, Char.ofNat 97, Char.ofNat 119, Char.ofNat 49, Char.ofNat 54, Char.ofNat 46, Char.ofNat 76, Char.ofNat 111, Char.ofNat 99, Char.ofNat 107, Char.ofNat 87,
  Char.ofNat 111, Char.ofNat 114, Char.ofNat 107, Char.ofNat 115, Char.ofNat 32, Char.ofNat 98, Char.ofNat 97, Char.ofNat 99, Char.ofNat 107, Char.ofNat 115, Char.ofNat 116, Char.ofNat 105,
  Char.ofNat 116, Char.ofNat 99, Char.ofNat 104, Char.ofNat 47, Char.ofNat 98, Char.ofNat 97, Char.ofNat 99, Char.ofNat 107, Char.ofNat 115, Char.ofNat 116, Char.ofNat 105, Char.ofNat 116,
  Char.ofNat 99, Char.ofNat 104, Char.ofNat 108, Char.ofNat 97, Char.ofNat 119, Char.ofNat 49, Char.ofNat 54, Char.ofNat 46, Char.ofNat 76, Char.ofNat 111, Char.ofNat 99, Char.ofNat 107,
  Char.ofNat 80, Char.ofNat 108, Char.ofNat 97, Char.ofNat 121, Char.ofNat 115]
theorem head_eq : Try.prog.initOrder = String.ofList (mainSigns ++ Char.ofNat 32 :: (sumSigns ++ Char.ofNat 32 :: (cutSigns ++ Char.ofNat 32 :: restSigns))) := by kernel_rfl
theorem behind (r : List (List Char)) : behindMainWord (mainSigns :: sumSigns :: r) = r := by kernel_rfl
theorem head_words : behindMainWord (wordsSigns Try.prog.initOrder.toList) = cutSigns :: wordsSigns restSigns := by
  rw [head_eq, String.toList_ofList, words_app _ _ (by decide +kernel), words_app _ _ (by decide +kernel), words_app _ _ (by decide +kernel), behind]
theorem lifts_rest (r : List (List Char)) : stripLifts liftWords (cutSigns :: r) = ([], cutSigns :: r) := by kernel_rfl
section
variable {P : Program} {r : List (List Char)}
theorem make_of (h : behindMainWord (wordsSigns P.initOrder.toList) = cutSigns :: r) : P.make = some .cut := by
  unfold Program.make
  rw [h]
  kernel_rfl
theorem lifts_of (h : behindMainWord (wordsSigns P.initOrder.toList) = cutSigns :: r) : P.liftsFinal = false := by
  unfold Program.liftsFinal Program.headLifts
  rw [h, lifts_rest]
  kernel_rfl
theorem mayEnter_of (h : behindMainWord (wordsSigns P.initOrder.toList) = cutSigns :: r) (h1 : P.laysLater = false) (h2 : P.bearsReflect = false) (h3 : P.doorFits [] = true) : P.mayEnter = true := by
  unfold Program.mayEnter
  rw [h]
  show (_ || _ || _) = true
  rw [lifts_rest, h1, h2, h3]
  kernel_rfl
end
theorem make_ok : Try.prog.make = some .cut := make_of head_words
theorem lifts_ok : Try.prog.liftsFinal = false := lifts_of head_words
theorem mayEnter_ok : Try.prog.mayEnter = true := mayEnter_of head_words (by kernel_rfl) (by kernel_rfl) (by kernel_rfl)
/-- What the form of claims asks of a row of this seat, the words of the head taken out. -/
theorem joined_of {P : Program} {f : FuncId} {fn : Func} {s : ChangeSpec} {c : OpenClaim} (h1 : P.mayEnter = true) (h2 : P.liftsFinal = false) (h3 : P.make = some .cut)
    (a1 : c.wf (OpenSpec.ofChange s) = true) (a2 : laidOutB P = true) (a3 : mapsRowed P = true) (a4 : fn.params.all (P.readableRec ·) = true) (a5 : namedTie P c.named s.vars = true)
    (a6 : c.stops = []) (a7 : P.stops = []) (a8 : c.knobs = []) (a9 : P.stopKnobs = []) (a10 : (c.inPlace == P.inPlace f) = true) (a11 : (c.unfollowed == P.unfollowed f) = true) (a12 : (c.recurses == P.recurses f) = true) (a13 : (c.named == P.varsNamed f) = true)
    (a14 : ((c.maps == (fn.params.toList ++ s.plain.varTypes P).any (P.mapsRec ·)) && (c.ifaces == (fn.params.toList ++ s.plain.varTypes P).any (P.ifacesRec ·)) && (c.mapsOut == P.mapsAmong fn.resultTypes.toList) &&
      (c.loops == (fn.params.toList ++ s.plain.varTypes P).any (P.loopsFrom ·)) && (c.wideKeys == (fn.params.toList ++ s.plain.varTypes P ++ fn.resultTypes.toList).any (P.wideKeysFrom ·)) &&
      s.vars.all (P.varReadable ·) && fn.resultTypes.all (fun t => P.readableRec t && decide (t < P.types.size)) && (c.ifacesOut == fn.resultTypes.toList.any (P.ifacesRec ·)) && (c.loopsOut == fn.resultTypes.toList.any (P.loopsFrom ·))) = true)
    (a15 : c.plainKeys = true) (a16 : P.plainKeys = true) (a17 : c.shortTexts = none) (a18 : P.stopsHeard = true) (a19 : c.lifted = false) (a20 : c.make = .cut)
    (a21 : ((c.kinds == (if c.domain.isEmpty then [] else fn.params.toList.map fun t => match P.underlying t with | some (.int k) => some k | _ => none)) && (c.pinned == c.pinnedBy) &&
      (c.veiled == (fn.params.toList ++ s.plain.varTypes P ++ fn.resultTypes.toList).any (P.veiledRec ·)) && c.veiledFits P fn.params.toList (fn.params.toList ++ s.plain.varTypes P ++ fn.resultTypes.toList)) = true) : joinedFacts P f fn s c = true := by
  simp only [Bool.and_eq_true] at a14 a21
  obtain ⟨⟨⟨⟨⟨⟨⟨⟨b1, b2⟩, b3⟩, b4⟩, b5⟩, b6⟩, b7⟩, b8⟩, b9⟩ := a14
  obtain ⟨⟨⟨d1, d2⟩, d3⟩, d4⟩ := a21
  unfold joinedFacts
  simp only [Bool.and_eq_true]
  have e6 : (c.stops == []) = true := by rw [a6]; rfl
  have e7 : (P.stops == []) = true := by rw [a7]; rfl
  have e8 : (c.knobs == []) = true := by rw [a8]; rfl
  have e9 : (P.stopKnobs == []) = true := by rw [a9]; rfl
  have e15 : (c.plainKeys == P.plainKeys) = true := by rw [a15, a16]; rfl
  have e17 : c.shortTexts.isNone = true := by rw [a17]; rfl
  have e19 : (c.lifted == P.liftsFinal) = true := by rw [a19, h2]; rfl
  have e20 : (P.make == some c.make) = true := by rw [a20, h3]; kernel_rfl
  exact ⟨⟨⟨⟨⟨⟨⟨⟨⟨⟨⟨⟨⟨⟨⟨⟨⟨⟨⟨⟨⟨⟨⟨⟨⟨⟨⟨⟨⟨⟨⟨a1, a2⟩, a3⟩, a4⟩, a5⟩, e6⟩, e7⟩, e8⟩, e9⟩, a10⟩, a11⟩, a12⟩, a13⟩, b1⟩, b2⟩, b3⟩, b4⟩, b5⟩, b6⟩, b7⟩, b8⟩, b9⟩, e15⟩, e17⟩, a18⟩, h1⟩, e19⟩, e20⟩, d1⟩, d2⟩, d3⟩, d4⟩
theorem mapsRowed_ok : mapsRowed Try.prog = true := by kernel_rfl
theorem stops_ok : Try.prog.stops = [] := by kernel_rfl
theorem stopKnobs_ok : Try.prog.stopKnobs = [] := by kernel_rfl
theorem plainKeys_ok : Try.prog.plainKeys = true := by kernel_rfl
theorem stopsHeard_ok : Try.prog.stopsHeard = true := by kernel_rfl
theorem joined_try {f : FuncId} {fn : Func} {s : ChangeSpec} {c : OpenClaim}
    (a1 : c.wf (OpenSpec.ofChange s) = true) (a4 : fn.params.all (Try.prog.readableRec ·) = true) (a5 : namedTie Try.prog c.named s.vars = true)
    (a6 : c.stops = []) (a8 : c.knobs = []) (a10 : (c.inPlace == Try.prog.inPlace f) = true) (a11 : (c.unfollowed == Try.prog.unfollowed f) = true) (a12 : (c.recurses == Try.prog.recurses f) = true) (a13 : (c.named == Try.prog.varsNamed f) = true)
    (a14 : ((c.maps == (fn.params.toList ++ s.plain.varTypes Try.prog).any (Try.prog.mapsRec ·)) && (c.ifaces == (fn.params.toList ++ s.plain.varTypes Try.prog).any (Try.prog.ifacesRec ·)) && (c.mapsOut == Try.prog.mapsAmong fn.resultTypes.toList) &&
      (c.loops == (fn.params.toList ++ s.plain.varTypes Try.prog).any (Try.prog.loopsFrom ·)) && (c.wideKeys == (fn.params.toList ++ s.plain.varTypes Try.prog ++ fn.resultTypes.toList).any (Try.prog.wideKeysFrom ·)) &&
      s.vars.all (Try.prog.varReadable ·) && fn.resultTypes.all (fun t => Try.prog.readableRec t && decide (t < Try.prog.types.size)) && (c.ifacesOut == fn.resultTypes.toList.any (Try.prog.ifacesRec ·)) && (c.loopsOut == fn.resultTypes.toList.any (Try.prog.loopsFrom ·))) = true)
    (a15 : c.plainKeys = true) (a17 : c.shortTexts = none) (a19 : c.lifted = false) (a20 : c.make = .cut)
    (a21 : ((c.kinds == (if c.domain.isEmpty then [] else fn.params.toList.map fun t => match Try.prog.underlying t with | some (.int k) => some k | _ => none)) && (c.pinned == c.pinnedBy) &&
      (c.veiled == (fn.params.toList ++ s.plain.varTypes Try.prog ++ fn.resultTypes.toList).any (Try.prog.veiledRec ·)) && c.veiledFits Try.prog fn.params.toList (fn.params.toList ++ s.plain.varTypes Try.prog ++ fn.resultTypes.toList)) = true) : joinedFacts Try.prog f fn s c = true :=
  joined_of mayEnter_ok lifts_ok make_ok a1 laid_out mapsRowed_ok a4 a5 a6 stops_ok a8 stopKnobs_ok a10 a11 a12 a13 a14 a15 plainKeys_ok a17 stopsHeard_ok a19 a20 a21
end Go.Proofs.Ytloeicnadchkpaa
